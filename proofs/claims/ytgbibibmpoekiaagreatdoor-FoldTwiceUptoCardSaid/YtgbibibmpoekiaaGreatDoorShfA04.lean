/-
  What the proofs lean on: Env, FoldLaw, FewAll.
-/
import Derived.Lib.LaidTab
import Derived.Lib.AppendIntMem
import Derived.Lib.ItoaLen
import Derived.Below
import Derived.Lib.Hide
import Derived.Test.YtgbibibmpoekiaaGreatDoorShfA01
import Derived.Test.YtgbibibmpoekiaaGreatDoorShfA02
import Derived.Test.YtgbibibmpoekiaaGreatDoorShfA03
set_option maxRecDepth 100000
set_option maxHeartbeats 16000000
namespace Go.Proofs.YtgbibibmpoekiaaGreatDoor
section
open Go.RowKit
def Env (w : World) : Prop := Lib.TabIs Tryz.prog w "internal/strconv.uint64pow10" .u64 Lib.pow10Tab
theorem var_lt {w:World} {cs:Array Value} {n:String} {g:Nat} (hg:Tryz.prog.globalNamed n=some g) (h:w.var? Tryz.prog n=some cs):g<w.heap.size:=by
 unfold World.var? at h
 rw[hg] at h
 simp only[Option.bind_some] at h
 split at h
 ·rename_i he
  exact (Array.getElem?_eq_some_iff.1 he).1
 ·cases h
theorem Env.below {w w':World} (h:Env w) (hb:Below w.heap.size w w'):Env w':=by
 have hg : Tryz.prog.globalNamed "internal/strconv.uint64pow10" = some 3 := by kernel_rfl
 have hlt:=var_lt hg h
 unfold Env Lib.TabIs World.var? at h ⊢
 rw[hg] at h ⊢
 simp only[Option.bind_some] at h ⊢
 rw[hb.block _ hlt]
 exact h
theorem Env.drewN {w:World} (h:Env w) (k:Nat):Env (w.drewN k):=h
theorem Below.next {w w1 w2:World} (h:Below w.heap.size w w1) (h':Below w1.heap.size w1 w2):Below w.heap.size w w2:=
 h.trans (h'.mono h.size)
theorem Below.drewN {w w1:World} {B:Nat} (h:Below B w w1) (k:Nat):Below B w (w1.drewN k):=⟨h.os,h.tape,h.output,h.size,h.block⟩
theorem Below.self (w:World):Below w.heap.size w w:=Below.refl _ _
theorem Below.selfN (w:World) (k:Nat):Below w.heap.size w (w.drewN k):=⟨rfl,rfl,rfl,Nat.le_refl _,fun _ _=>rfl⟩
theorem Below.ofN {w w1:World} {k:Nat} (h:Below (w.drewN k).heap.size (w.drewN k) w1):Below w.heap.size w w1:=⟨h.os,h.tape,h.output,h.size,h.block⟩
theorem str_app (a b:List UInt8):((⟨a.toArray⟩:ByteArray)++(⟨b.toArray⟩:ByteArray))=⟨(a++b).toArray⟩:=by
 apply ByteArray.ext
 rw[ByteArray.data_append]
 simp
theorem itoa_any (n:Int) (h0:-9223372036854775808≤n) (h1:n≤9223372036854775807) (w:World) (hE:Env w) :
  Calls Tryz.prog 139 #[.int .i64 n] w fun e w'=>e=.returned (.string ⟨(Lib.itoa n).toArray⟩)∧Below w.heap.size w w':=by
 refine (Tryz.strconv_Itoa n h0 h1 w hE).mono ?_
 rintro e w' ⟨rfl,k,os,rfl⟩
 exact ⟨rfl,Lib.below_grow _ _ (Nat.le_refl _) _ _⟩
theorem trim_any (s cutset:ByteArray) (hs:s.size≤9223372036854775807) (hcs:cutset.size<4294967281) (ha:cutset.data.toList.all (fun b=>decide (b.toNat<128))=true) (w:World) :
  Calls Tryz.prog 135 #[.string s,.string cutset] w fun e w'=>e=.returned (.string ⟨(Lib.trimS s.data.toList cutset.data.toList).toArray⟩)∧Below w.heap.size w w':=
 Any.strings_Trim_laid Tryz.lays160 (by kernel_rfl) s cutset w hs hcs (ascii_of_all ha)
theorem atoi_any (s:ByteArray) (n:Int) (hl:s.size≤18) (h:Lib.atoi s.data.toList=some n) (w:World) :
  Calls Tryz.prog 180 #[.string s] w fun e w'=>e=.returned (.tuple #[.int .i64 n,.nilIface])∧Below w.heap.size w w':=by
 refine (Tryz.strconv_Atoi s n hl h w).mono ?_
 rintro e w' ⟨rfl,t,rfl⟩
 exact ⟨rfl,rfl,rfl,rfl,by rw[Lib.bytesWorld_size];omega,fun k hk=>Lib.bytesWorld_at_old _ _ _ _ hk⟩
end
section
open Go
namespace Prims
def num (n d:Int):Dat:=.mk 0 n d ⟨#[]⟩ []
def zeroD:Dat:=num 0 0
def truth (b:Bool):Dat:=.mk 1 (if b then 1 else 0) 0 ⟨#[]⟩ []
def voidD:Dat:=.mk 5 0 0 ⟨#[]⟩ []
def step (n a b c d:Int):Int × Int × Int:=if n=0 then Num.add a b c d else if n=1 then Num.sub a b c d else if n=2 then Num.mul a b c d else Num.div a b c d
def sumsL (n:Int):List Dat→Int→Int→Dat × Int
 | [],a,b=>(num a b,0)
 | x::l,a,b=>if (step n a b x.n x.d).2.2=0 then sumsL n l (step n a b x.n x.d).1 (step n a b x.n x.d).2.1 else (zeroD,(step n a b x.n x.d).2.2)
def sumsR (n:Int) (l:List Dat):Dat × Int:=
 if (n=1∨n=3)∧1<l.length then sumsL n l.tail (l.headD zeroD).n (l.headD zeroD).d else sumsL n l (n / 2) 1
def sums (n:Int) (l:List Dat):Dat × Int:=if l.any (fun x=>decide (x.kind≠0))=true then (zeroD,1) else sumsR n l
def eq (a b:Dat):Bool:=decide (a.kind≠3∧a.kind≠6∧a.kind≠7)&&Dat.alike a b
mutual
def eqc:Dat→Dat→Int→Bool × Int
 | .mk k n d s l,.mk k' n' d' s' l',left=>
  if left≤0∨¬(k=k'∧n=n'∧d=d'∧s=s'∧l.length=l'.length) then (false,left-1) else eqcL l l' (left-1)
def eqcL:List Dat→List Dat→Int→Bool × Int
 | x::l,y::l',left=>if (eqc x y left).1=true then eqcL l l' (eqc x y left).2 else (false,(eqc x y left).2)
 | _,_,left=>(true,left)
end
def equal (a b:Dat):Dat × Int:=if (eqc a b 1000).2<0 then (zeroD,3) else (truth (eqc a b 1000).1,0)
def at' (v k:Dat):Dat × Int:=
 if v.kind≠7∨k.kind≠0 then (zeroD,1) else if k.d≠1∨k.n<0∨(v.l.length:Int)≤k.n then (zeroD,3) else (v.l.getD k.n.toNat zeroD,0)
def kinds:List Int:=[4,6,0,2,1,3,7, -1]
def does (n:Int) (l:List Dat):Dat × Int:=
 if n<4 then sums n l
 else if n=25 then (voidD,0)
 else if n=4∨n=5 then (if (l.headD zeroD).kind≠0∨(l.tail.headD zeroD).kind≠0 then (zeroD,1) else if n=4 then (truth (Dat.alike (l.headD zeroD) (l.tail.headD zeroD)),0) else (truth (Num.less (l.headD zeroD).n (l.headD zeroD).d (l.tail.headD zeroD).n (l.tail.headD zeroD).d),0))
 else if n=6 then (truth (eq (l.headD zeroD) (l.tail.headD zeroD)),0)
 else if n=7 then equal (l.headD zeroD) (l.tail.headD zeroD)
 else if n=8 then (truth (decide ((l.headD zeroD).kind=1∧(l.headD zeroD).n=0)),0)
 else if n=18∨n=19 then (if (l.headD zeroD).kind≠6 then (zeroD,1) else ((l.headD zeroD).l.getD (n-18).toNat zeroD,0))
 else if n=22 then at' (l.headD zeroD) (l.tail.headD zeroD)
 else if n=23 then (if (l.headD zeroD).kind≠7 then (zeroD,1) else (num (l.headD zeroD).l.length 1,0))
 else if n=24 then (match Dat.items (l.headD zeroD) with | none=>(zeroD,1) | some k=>(num k.length 1,0))
 else (truth (decide ((l.headD zeroD).kind=kinds.getD (n-9).toNat (-1))),0)
def fold (n:Int) (l:List Dat):Dat × Int × Bool:=
 if (has n&&((facts n).folds&&l.all (fun x=>Dat.right x 0)))=true then (if takes n l.length=true then ((does n l).1,(does n l).2,true) else (zeroD,2,true)) else (zeroD,0,false)
end Prims
end
section
open Go.RowKit
mutual
def RepD (w:World) (B:Nat):Dat→Value→Prop
 | .mk k n d s l,v=>∃o len cap,v=.agg #[.int .i64 k,.int .i64 n,.int .i64 d,.string s,.slice o len cap] ∧
   (-9223372036854775808≤k∧k≤9223372036854775807)∧(-9223372036854775808≤n∧n≤9223372036854775807)∧(-9223372036854775808≤d∧d≤9223372036854775807)∧s.size≤140737488351232 ∧
   len=l.length∧len≤cap∧cap≤9223372036854775807∧(match o with | none=>l=[]∧cap=0 | some a=>(l≠[]→a.spot=none∧a.block<B)∧RepC w B l a.block a.off)
def RepC (w:World) (B:Nat):List Dat→Nat→Nat→Prop
 | [],_,_=>True
 | x::l,b,off=>(∃c0 c1 c2 c3 c4,w.cell? ⟨b,off,none⟩=some c0∧w.cell? ⟨b,off+1,none⟩=some c1∧w.cell? ⟨b,off+2,none⟩=some c2∧w.cell? ⟨b,off+3,none⟩=some c3∧w.cell? ⟨b,off+4,none⟩=some c4∧RepD w B x (.agg #[c0,c1,c2,c3,c4]))∧RepC w B l b (off+5)
end
def RepS (w:World) (B:Nat) (l:List Dat) (v:Value):Prop:=
 ∃o len cap,v=.slice o len cap∧len=l.length∧len≤cap∧cap≤9223372036854775807∧(match o with | none=>l=[]∧cap=0 | some a=>(l≠[]→a.spot=none∧a.block<B)∧RepC w B l a.block a.off)
theorem RepD.open {w:World} {B:Nat} {k n d:Int} {s:ByteArray} {l:List Dat} {v:Value} (h:RepD w B (.mk k n d s l) v) :
  ∃sl,v=.agg #[.int .i64 k,.int .i64 n,.int .i64 d,.string s,sl]∧(-9223372036854775808≤k∧k≤9223372036854775807)∧(-9223372036854775808≤n∧n≤9223372036854775807)∧(-9223372036854775808≤d∧d≤9223372036854775807)∧s.size≤140737488351232∧RepS w B l sl:=by
 rw[RepD] at h
 obtain ⟨o,len,cap,rfl,h1,h2,h3,h4,h5⟩:=h
 exact ⟨_,rfl,h1,h2,h3,h4,o,len,cap,rfl,h5⟩
theorem RepD.shut {w:World} {B:Nat} {k n d:Int} {s:ByteArray} {l:List Dat} {sl:Value} (h1:-9223372036854775808≤k∧k≤9223372036854775807) (h2:-9223372036854775808≤n∧n≤9223372036854775807) (h3:-9223372036854775808≤d∧d≤9223372036854775807) (h4:s.size≤140737488351232) (h:RepS w B l sl) :
  RepD w B (.mk k n d s l) (.agg #[.int .i64 k,.int .i64 n,.int .i64 d,.string s,sl]):=by
 obtain ⟨o,len,cap,rfl,h5⟩:=h
 rw[RepD]
 exact ⟨o,len,cap,rfl,h1,h2,h3,h4,h5⟩
theorem RepC.at {w:World} {B b:Nat}:∀{l:List Dat} {off:Nat},RepC w B l b off→∀(i:Nat) (x:Dat),l[i]?=some x →
  ∃c0 c1 c2 c3 c4,w.cell? ⟨b,off+i*5,none⟩=some c0∧w.cell? ⟨b,off+i*5+1,none⟩=some c1∧w.cell? ⟨b,off+i*5+2,none⟩=some c2∧w.cell? ⟨b,off+i*5+3,none⟩=some c3∧w.cell? ⟨b,off+i*5+4,none⟩=some c4∧RepD w B x (.agg #[c0,c1,c2,c3,c4])
 | [],_,_,i,x,hx=>by simp at hx
 | y::l,off,h,i,x,hx=>by
  rw[RepC] at h
  cases i with
  | zero=>
   simp only[List.getElem?_cons_zero,Option.some.injEq] at hx
   subst hx
   simpa using h.1
  | succ i=>
   have:=RepC.at h.2 i x (by simpa using hx)
   have e:off+(i+1)*5=off+5+i*5:=by omega
   rw[e];exact this
theorem rep_kept {w w':World} {B:Nat} (hk:∀b o,b<B→w'.cell? ⟨b,o,none⟩=w.cell? ⟨b,o,none⟩) :
  (∀x v,RepD w B x v→RepD w' B x v)∧(∀l b off,b<B→RepC w B l b off→RepC w' B l b off):=by
 have both:(∀x:Dat,∀v,RepD w B x v→RepD w' B x v):=by
  intro x
  refine Dat.rec (motive_1:=fun x=>∀v,RepD w B x v→RepD w' B x v) (motive_2:=fun l=>∀b off,b<B→RepC w B l b off→RepC w' B l b off) ?_ ?_ ?_ x
  ·intro k n d s l ih v h
   rw[RepD] at h ⊢
   obtain ⟨o,len,cap,rfl,h1,h2,h3,h4,h5,h6,h7,h8⟩:=h
   refine ⟨o,len,cap,rfl,h1,h2,h3,h4,h5,h6,h7,?_⟩
   cases o with
   | none=>exact h8
   | some a=>
    refine ⟨h8.1,?_⟩
    by_cases hl:l=[]
    ·subst hl;rw[RepC];trivial
    ·exact ih _ _ (h8.1 hl).2 h8.2
  ·intro b off _ _;rw[RepC];trivial
  ·intro x l ihx ihl b off hb h
   rw[RepC] at h ⊢
   obtain ⟨⟨c0,c1,c2,c3,c4,h0,h1,h2,h3,h4,h5⟩,h6⟩:=h
   exact ⟨⟨c0,c1,c2,c3,c4,by rw[hk _ _ hb];exact h0,by rw[hk _ _ hb];exact h1,by rw[hk _ _ hb];exact h2,by rw[hk _ _ hb];exact h3,by rw[hk _ _ hb];exact h4,ihx _ h5⟩,ihl _ _ hb h6⟩
 refine ⟨both,?_⟩
 intro l
 induction l with
 | nil=>intro b off _ _;rw[RepC];trivial
 | cons x l ih=>
  intro b off hb h
  rw[RepC] at h ⊢
  obtain ⟨⟨c0,c1,c2,c3,c4,h0,h1,h2,h3,h4,h5⟩,h6⟩:=h
  exact ⟨⟨c0,c1,c2,c3,c4,by rw[hk _ _ hb];exact h0,by rw[hk _ _ hb];exact h1,by rw[hk _ _ hb];exact h2,by rw[hk _ _ hb];exact h3,by rw[hk _ _ hb];exact h4,both _ _ h5⟩,ih _ _ hb h6⟩
theorem below_cells {B:Nat} {w w':World} (h:Below B w w'):∀b o,b<B→w'.cell? ⟨b,o,none⟩=w.cell? ⟨b,o,none⟩:=
 fun b o hb=>h.cell (p:=⟨b,o,none⟩) hb
theorem RepD.kept {w w':World} {B:Nat} {x:Dat} {v:Value} (h:RepD w B x v) (hb:Below B w w'):RepD w' B x v:=(rep_kept (below_cells hb)).1 x v h
theorem RepC.kept {w w':World} {B:Nat} {l:List Dat} {b off:Nat} (h:RepC w B l b off) (hB:b<B) (hb:Below B w w'):RepC w' B l b off:=(rep_kept (below_cells hb)).2 l b off hB h
theorem RepS.kept {w w':World} {B:Nat} {l:List Dat} {v:Value} (h:RepS w B l v) (hb:Below B w w'):RepS w' B l v:=by
 obtain ⟨o,len,cap,rfl,h1,h2,h3,h4⟩:=h
 refine ⟨o,len,cap,rfl,h1,h2,h3,?_⟩
 cases o with
 | none=>exact h4
 | some a=>
  refine ⟨h4.1,?_⟩
  by_cases hl:l=[]
  ·subst hl;rw[RepC];trivial
  ·exact h4.2.kept (h4.1 hl).2 hb
theorem rep_wider {w:World} {B B':Nat} (hB:B≤B'):(∀x v,RepD w B x v→RepD w B' x v)∧(∀l b off,RepC w B l b off→RepC w B' l b off):=by
 have both:(∀x:Dat,∀v,RepD w B x v→RepD w B' x v):=by
  intro x
  refine Dat.rec (motive_1:=fun x=>∀v,RepD w B x v→RepD w B' x v) (motive_2:=fun l=>∀b off,RepC w B l b off→RepC w B' l b off) ?_ ?_ ?_ x
  ·intro k n d s l ih v h
   rw[RepD] at h ⊢
   obtain ⟨o,len,cap,rfl,h1,h2,h3,h4,h5,h6,h7,h8⟩:=h
   refine ⟨o,len,cap,rfl,h1,h2,h3,h4,h5,h6,h7,?_⟩
   cases o with
   | none=>exact h8
   | some a=>exact ⟨fun hl=>⟨(h8.1 hl).1,Nat.lt_of_lt_of_le (h8.1 hl).2 hB⟩,ih _ _ h8.2⟩
  ·intro b off _;rw[RepC];trivial
  ·intro x l ihx ihl b off h
   rw[RepC] at h ⊢
   obtain ⟨⟨c0,c1,c2,c3,c4,h0,h1,h2,h3,h4,h5⟩,h6⟩:=h
   exact ⟨⟨c0,c1,c2,c3,c4,h0,h1,h2,h3,h4,ihx _ h5⟩,ihl _ _ h6⟩
 refine ⟨both,?_⟩
 intro l
 induction l with
 | nil=>intro b off _;rw[RepC];trivial
 | cons x l ih=>
  intro b off h
  rw[RepC] at h ⊢
  obtain ⟨⟨c0,c1,c2,c3,c4,h0,h1,h2,h3,h4,h5⟩,h6⟩:=h
  exact ⟨⟨c0,c1,c2,c3,c4,h0,h1,h2,h3,h4,both _ _ h5⟩,ih _ _ h6⟩
theorem RepD.wider {w:World} {B B':Nat} {x:Dat} {v:Value} (h:RepD w B x v) (hB:B≤B'):RepD w B' x v:=(rep_wider hB).1 x v h
theorem RepS.wider {w:World} {B B':Nat} {l:List Dat} {v:Value} (h:RepS w B l v) (hB:B≤B'):RepS w B' l v:=by
 obtain ⟨o,len,cap,rfl,h1,h2,h3,h4⟩:=h
 refine ⟨o,len,cap,rfl,h1,h2,h3,?_⟩
 cases o with
 | none=>exact h4
 | some a=>exact ⟨fun hl=>⟨(h4.1 hl).1,Nat.lt_of_lt_of_le (h4.1 hl).2 hB⟩,(rep_wider hB).2 _ _ _ h4.2⟩
end
section
open Go.RowKit
theorem few_ge:∀x:Dat,∀left:Int,0≤left→-1≤Dat.few x left:=by
 have hL:∀l:List Dat,(∀x∈l,∀left:Int,0≤left→-1≤Dat.few x left)→∀left:Int, -1≤left→-1≤Dat.fewL l left:=by
  intro l
  induction l with
  | nil=>intro _ left h;simpa[Dat.fewL] using h
  | cons x l ih=>
   intro hx left h
   rw[Dat.fewL]
   split
   ·exact ih (fun y hy=>hx y (by simp[hy])) _ (hx x (by simp) _ (by omega))
   ·exact h
 intro x
 induction x using Dat.ind with
 | h k n d s l ih=>
  intro left h
  rw[Dat.few]
  exact hL l ih _ (by omega)
theorem fewL_step {l:List Dat} {i:Nat} {x:Dat} {cur:Int} (h:l[i]?=some x) (hc:0≤cur):Dat.fewL (l.drop i) cur=Dat.fewL (l.drop (i+1)) (Dat.few x cur):=by
 have e:l.drop i=x::l.drop (i+1):=by
  obtain ⟨hi,he⟩:=List.getElem?_eq_some_iff.1 h
  rw[←he];exact List.drop_eq_getElem_cons hi
 rw[e,Dat.fewL,if_pos hc]
theorem fewL_neg (l:List Dat) {cur:Int} (hc:¬0≤cur):Dat.fewL l cur=cur:=by
 cases l with
 | nil=>rfl
 | cons x l=>rw[Dat.fewL,if_neg hc]
theorem box_cell (w:World) (cs:Array Value) (t:TypeId) (i:Nat) {v:Value} (h:cs[i]?=some v):(w.alloc (.cells cs t)).cell? ⟨w.heap.size,i,none⟩=some v:=by
 have hn:(w.alloc (.cells cs t)).heap[w.heap.size]?=some (.cells cs t):=(MapKept.heap_alloc w _).1
 show (match (w.alloc (.cells cs t)).heap[w.heap.size]? with | some (.cells c _ _)=>_ | _=>_)=_
 rw[hn]
 simpa using h
theorem part_at {w wr:World} {B:Nat} {l:List Dat} {o:Option Addr} {cap j:Nat} {x:Dat} (h:match o with | none=>l=[]∧cap=0 | some a=>(l≠[]→a.spot=none∧a.block<B)∧RepC w B l a.block a.off)
  (hb:Below B w wr) (hx:l[j]?=some x) :
  ∃b off,o=some ⟨b,off,none⟩∧∃c0 c1 c2 c3 c4,wr.cell? ⟨b,off+j*5,none⟩=some c0∧wr.cell? ⟨b,off+j*5+1,none⟩=some c1∧wr.cell? ⟨b,off+j*5+2,none⟩=some c2∧wr.cell? ⟨b,off+j*5+3,none⟩=some c3∧wr.cell? ⟨b,off+j*5+4,none⟩=some c4∧RepD wr B x (.agg #[c0,c1,c2,c3,c4]):=by
 cases o with
 | none=>rw[h.1] at hx;simp at hx
 | some a=>
  have hl:l≠[]:=by rintro rfl;simp at hx
  obtain ⟨b,off,sp⟩:=a
  obtain ⟨hs,hlt⟩:=h.1 hl
  simp only at hs hlt
  subst hs
  exact ⟨b,off,rfl,(h.2.kept hlt hb).at j x hx⟩
theorem part_at2 {w wr:World} {B:Nat} {l:List Dat} {o:Option Addr} {cap j:Nat} {x:Dat} (h:match o with | none=>l=[]∧cap=0 | some a=>(l≠[]→a.spot=none∧a.block<B)∧RepC w B l a.block a.off)
  (hb:Below B w wr) (hx:l[j]?=some x) :
  ∃b off k n d s l' o' len' cap',o=some ⟨b,off,none⟩∧x=.mk k n d s l'∧wr.cell? ⟨b,off+j*5,none⟩=some (.int .i64 k)∧wr.cell? ⟨b,off+j*5+1,none⟩=some (.int .i64 n)∧wr.cell? ⟨b,off+j*5+2,none⟩=some (.int .i64 d) ∧
   wr.cell? ⟨b,off+j*5+3,none⟩=some (.string s)∧wr.cell? ⟨b,off+j*5+4,none⟩=some (.slice o' len' cap')∧RepD wr B (.mk k n d s l') (.agg #[.int .i64 k,.int .i64 n,.int .i64 d,.string s,.slice o' len' cap']):=by
 obtain ⟨b,off,ho,c0,c1,c2,c3,c4,e0,e1,e2,e3,e4,er⟩:=part_at h hb hx
 obtain ⟨k,n,d,s,l'⟩:=x
 obtain ⟨sl,hv,_,_,_,_,o',len',cap',hsl,_⟩:=er.open
 subst hsl
 simp only[Value.agg.injEq,Array.mk.injEq,List.cons.injEq,and_true] at hv
 obtain ⟨rfl,rfl,rfl,rfl,rfl⟩:=hv
 exact ⟨b,off,k,n,d,s,l',o',len',cap',ho,rfl,e0,e1,e2,e3,e4,er⟩
theorem rfew_any:∀(x:Dat) (v:Value) (left:Int) (B:Nat) (w:World),RepD w B x v→B≤w.heap.size→0≤left→left≤100000 →
  Calls Tryz.prog 28 #[v,.int .i64 left] w fun e w'=>e=.returned (.int .i64 (Dat.few x left))∧Below w.heap.size w w':=by
 intro x
 induction x using Dat.ind with
 | h k n d s l ih=>
  intro v left B w hv hB h0 h1
  obtain ⟨sl,rfl,_,_,_,_,o,len,cap,rfl,hlen,hcap,hmax,hc⟩:=hv.open
  have IH:=Lib.hid ih
  have HV:=Lib.hid hc
  have HL:=Lib.hid hlen
  clear ih hv hc hlen
  go_enter Tryz.func28,Tryz.ntmps28
  go_wp2
  have hBox:∀wr,Below (w.heap.size+1) (w.alloc (.cells #[.int .i64 k,.int .i64 n,.int .i64 d,.string s,.slice o len cap] 45)) wr→wr.cell? ⟨w.heap.size,4,none⟩=some (.slice o len cap):=by
   intro wr hb
   rw[hb.cell (p:=⟨w.heap.size,4,none⟩) (by simp)]
   exact box_cell _ _ _ _ (by simp)
  have HB:=Lib.hid hBox
  clear hBox
  go_loopw [1,5] (fun a i wr=>∃(cur:Int) (j:Nat),a=.int .i64 cur∧i=.int .i64 j∧j≤len∧-1≤cur∧cur≤100000∧Dat.fewL (l.drop j) cur=Dat.fewL l (left-1)∧Below (w.heap.size+1) (w.alloc (.cells #[.int .i64 k,.int .i64 n,.int .i64 d,.string s,.slice o len cap] 45)) wr) (fun _ i _=>len-(intOf i).toNat)
  case atStart=>exact ⟨left-1,0,rfl,rfl,by omega,by omega,by omega,rfl,Below.refl _ _⟩
  case round=>
   obtain ⟨cur,j,rfl,rfl,hj,hc1,hc2,hf,hb⟩:=hrel
   have HF:=Lib.hid hf
   clear hf
   have hcell:=HB.out _ hb
   by_cases hjl:j<len
   ·by_cases hcur:0≤cur
    ·obtain ⟨x,hx⟩:∃x,l[j]?=some x:=⟨_,List.getElem?_eq_getElem (by rw[←HL.out];exact hjl)⟩
     have hbw:Below w.heap.size w wr:=((Below.refl _ _).alloc (Nat.le_refl _) _).trans (hb.mono (by omega))
     obtain ⟨b,off,ho,c0,c1,c2,c3,c4,e0,e1,e2,e3,e4,er⟩:=part_at HV.out (hbw.mono hB) hx
     subst ho
     have HX:=Lib.hid hx
     have ER:=Lib.hid er
     have HF2:=Lib.hid ((fewL_step hx hcur).symm.trans HF.out)
     have g1:=few_ge x cur hcur
     have g2:=Dat.few_le x cur
     have hsz:=hbw.size
     obtain ⟨y,hy⟩:∃y,Dat.few x cur=y:=⟨_,rfl⟩
     rw[hy] at g1 g2 HF2
     have HY:=Lib.hid hy
     clear hx er hy
     go_wp2_with (first | (go_at_call 28;refine (IH.out x (List.mem_of_getElem? HX.out) _ _ B _ ER.out (by omega) (by omega) (by omega)).mono ?_;rw[HY.out];rintro e' w1 ⟨rfl,hb1⟩))
     go_roundw
     case rel=>exact ⟨y,j+1,rfl,by go_num,by omega,by omega,by omega,HF2.out,hb.trans (hb1.mono (by have:=hb.size;simp at this;omega))⟩
     case measure=>simp[intOf];omega
    ·have HR:=Lib.hid (show Dat.fewL l (left-1)=cur by rw[←HF.out,fewL_neg _ hcur])
     go_wp2
     go_ret
     exact ⟨ret_int (by rw[Dat.few];exact HR.out.symm),((Below.refl _ _).alloc (Nat.le_refl _) _).trans (hb.mono (by omega))⟩
   ·have HR:=Lib.hid (show Dat.fewL l (left-1)=cur by
     rw[←HF.out,List.drop_eq_nil_of_le (by rw[←HL.out];omega)];rfl)
    go_wp2
    go_ret
    exact ⟨ret_int (by rw[Dat.few];exact HR.out.symm),((Below.refl _ _).alloc (Nat.le_refl _) _).trans (hb.mono (by omega))⟩
end
end Go.Proofs.YtgbibibmpoekiaaGreatDoor
