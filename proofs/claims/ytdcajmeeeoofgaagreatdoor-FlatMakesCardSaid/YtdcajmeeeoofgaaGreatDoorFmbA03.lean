/- .. -/
import Derived.RegionTactic
import Derived.ChangeAlike
import Derived.BigRegion
import Derived.RangeFuncNested
import Derived.RangeFuncBound
import Derived.RangeFuncCalls
import Derived.RangeFuncLeaves
import Derived.Shelf.Abstract
import Derived.Shelf.RegionOpen
import Derived.WalkKit
import Derived.OwnWalkIn
import Derived.TacticsInMore
import Derived.LoopNIn
import Derived.LoopIn
import Derived.Deep.LoopGhost
import Derived.Laws.EntriesVeiled
import Derived.Laws.AppendOwn
import Derived.Laws.OwnMore
import Derived.Test.YtdcajmeeeoofgaaGreatDoorFmbA02
open Go.Proofs.Tryz
set_option maxRecDepth 100000
set_option maxHeartbeats 16000000
namespace Go.Proofs.YtdcajmeeeoofgaaGreatDoor
section
open Go.RowKit
theorem zk2 (s:ByteArray) (r:Bool) (hr:Dat.name s.data.toList=r) (hs:s.size≤140737488351232) (w:World) :
  Calls prog 86 #[.string s] w fun e w'=>e=.returned (.bool r)∧Below w.heap.size w w':=by
 rw[←hr];exact zi0 s hs w
theorem zj3 (s:ByteArray) (r:Bool) (hr:s.data.toList.all Dat.strByte=r) (hs:s.size≤140737488351232) (w:World) :
  Calls prog 87 #[.string s] w fun e w'=>e=.returned (.bool r)∧Below w.heap.size w w':=by
 rw[←hr];exact zg6 s hs w
theorem zl4 (n d:Int) (s:ByteArray) (o:Option Addr) (len cap:Nat) (hn0:-9223372036854775808≤n) (hn1:n≤9223372036854775807) (hd0:-9223372036854775808≤d) (hd1:d≤9223372036854775807) (w:World) :
  Calls prog 47 #[.agg #[.int .i64 0,.int .i64 n,.int .i64 d,.string s,.slice o len cap]] w fun e w'=>e=.returned (.tuple #[.agg #[.int .i64 0,.int .i64 n,.int .i64 d,.string ⟨#[]⟩,.slice none 0 0],.bool (Num.right n d)])∧Below w.heap.size w w':=by
 obtain ⟨r,hr⟩:∃r,Num.right n d=r:=⟨_,rfl⟩
 rw[hr]
 have HR:=zh hr
 clear hr
 go_enter func47,ntmps47
 go_wp2
 refine zaa (Two w #[.int .i64 0,.int .i64 n,.int .i64 d,.string s,.slice o len cap] 41 #[.int .i64 0,.int .i64 0,.int .i64 0,.string ByteArray.empty,.slice none 0 0]) 10 (by kernel_rfl) (by kernel_rfl) Two.drew ?_
 intro T _ W HW HW2
 have e0:∀t,(W t).cell? ⟨w.heap.size,0,none⟩=some (.int .i64 0):=fun t=>(HW t).cell 0 rfl
 have e1:∀t,(W t).cell? ⟨w.heap.size,1,none⟩=some (.int .i64 n):=fun t=>(HW t).cell 1 rfl
 have e2:∀t,(W t).cell? ⟨w.heap.size,2,none⟩=some (.int .i64 d):=fun t=>(HW t).cell 2 rfl
 have e3:∀t,(W t).cell? ⟨w.heap.size,3,none⟩=some (.string s):=fun t=>(HW t).cell 3 rfl
 have e4:∀t,(W t).cell? ⟨w.heap.size,4,none⟩=some (.slice o len cap):=fun t=>(HW t).cell 4 rfl
 have HWH:=zh HW
 have HW2H:=zh HW2
 clear HW HW2
 simp only[List.take_succ_cons,List.take_zero,List.drop_succ_cons,List.drop_zero]
 repeat (go_big_quiet_step (first | (go_at_call 85;refine (ziS n d r HR.out hn0 hn1 hd0 hd1 _).mono ?_;rintro e1 w1 ⟨rfl,k,rfl⟩;exact ⟨rfl,HW2H.out _ ((HWH.out _).next (Below.selfN _ _))⟩)))
 refine wpQuiet_nil ?_
 intro t
 obtain ⟨q0,q1,q2,q3,q4,z0,z1,z2,z3,z4⟩:=(HWH.out t).five
 go_wp2
 refine bodyPost_ret (v:=.tuple #[.agg #[.int .i64 0,.int .i64 n,.int .i64 d,.string ⟨#[]⟩,.slice none 0 0],.bool r]) (by simp[results,results47,go_sem,q0,q1,q2,q3,q4]) rfl ⟨rfl,?_⟩
 exact (HWH.out t).stored _ _ _ _ _
theorem zlI (n d:Int) (s:ByteArray) (o:Option Addr) (len cap:Nat) (h0:(n==0)=true) (w:World) :
  Calls prog 47 #[.agg #[.int .i64 1,.int .i64 n,.int .i64 d,.string s,.slice o len cap]] w fun e w'=>e=.returned (.tuple #[.agg #[.int .i64 1,.int .i64 n,.int .i64 0,.string ⟨#[]⟩,.slice none 0 0],.bool (true)])∧Below w.heap.size w w':=by
 go_enter func47,ntmps47
 go_wp2
 go_region
 all_goals
  go_wp2
  refine bodyPost_ret (v:=.tuple #[.agg #[.int .i64 1,.int .i64 n,.int .i64 0,.string ⟨#[]⟩,.slice none 0 0],.bool true]) (by simp[results,results47,go_sem]) rfl ⟨rfl,?_⟩
  exact (((Below.refl w.heap.size w).alloc (Nat.le_refl _) _).alloc (by simp) _).drew
theorem zln (n d:Int) (s:ByteArray) (o:Option Addr) (len cap:Nat) (h0:(n==0)=false) (h1:(n==1)=true) (w:World) :
  Calls prog 47 #[.agg #[.int .i64 1,.int .i64 n,.int .i64 d,.string s,.slice o len cap]] w fun e w'=>e=.returned (.tuple #[.agg #[.int .i64 1,.int .i64 n,.int .i64 0,.string ⟨#[]⟩,.slice none 0 0],.bool (true)])∧Below w.heap.size w w':=by
 go_enter func47,ntmps47
 go_wp2
 go_region
 all_goals
  go_wp2
  refine bodyPost_ret (v:=.tuple #[.agg #[.int .i64 1,.int .i64 n,.int .i64 0,.string ⟨#[]⟩,.slice none 0 0],.bool true]) (by simp[results,results47,go_sem]) rfl ⟨rfl,?_⟩
  exact (((Below.refl w.heap.size w).alloc (Nat.le_refl _) _).alloc (by simp) _).drew
theorem zlj (n d:Int) (s:ByteArray) (o:Option Addr) (len cap:Nat) (h0:(n==0)=false) (h1:(n==1)=false) (w:World) :
  Calls prog 47 #[.agg #[.int .i64 1,.int .i64 n,.int .i64 d,.string s,.slice o len cap]] w fun e w'=>e=.returned (.tuple #[.agg #[.int .i64 1,.int .i64 n,.int .i64 0,.string ⟨#[]⟩,.slice none 0 0],.bool (false)])∧Below w.heap.size w w':=by
 go_enter func47,ntmps47
 go_wp2
 go_region
 all_goals
  go_wp2
  refine bodyPost_ret (v:=.tuple #[.agg #[.int .i64 1,.int .i64 n,.int .i64 0,.string ⟨#[]⟩,.slice none 0 0],.bool false]) (by simp[results,results47,go_sem]) rfl ⟨rfl,?_⟩
  exact (((Below.refl w.heap.size w).alloc (Nat.le_refl _) _).alloc (by simp) _).drew
theorem zl0 (n d:Int) (s:ByteArray) (o:Option Addr) (len cap:Nat) (hs:s.size≤140737488351232) (w:World) :
  Calls prog 47 #[.agg #[.int .i64 2,.int .i64 n,.int .i64 d,.string s,.slice o len cap]] w fun e w'=>e=.returned (.tuple #[.agg #[.int .i64 2,.int .i64 0,.int .i64 0,.string s,.slice none 0 0],.bool (Dat.name s.data.toList)])∧Below w.heap.size w w':=by
 obtain ⟨r,hr⟩:∃r,Dat.name s.data.toList=r:=⟨_,rfl⟩
 rw[hr]
 have HR:=zh hr
 clear hr
 go_enter func47,ntmps47
 go_wp2
 refine zaa (Two w #[.int .i64 2,.int .i64 n,.int .i64 d,.string s,.slice o len cap] 41 #[.int .i64 0,.int .i64 0,.int .i64 0,.string ByteArray.empty,.slice none 0 0]) 8 (by kernel_rfl) (by kernel_rfl) Two.drew ?_
 intro T _ W HW HW2
 have e0:∀t,(W t).cell? ⟨w.heap.size,0,none⟩=some (.int .i64 2):=fun t=>(HW t).cell 0 rfl
 have e1:∀t,(W t).cell? ⟨w.heap.size,1,none⟩=some (.int .i64 n):=fun t=>(HW t).cell 1 rfl
 have e2:∀t,(W t).cell? ⟨w.heap.size,2,none⟩=some (.int .i64 d):=fun t=>(HW t).cell 2 rfl
 have e3:∀t,(W t).cell? ⟨w.heap.size,3,none⟩=some (.string s):=fun t=>(HW t).cell 3 rfl
 have e4:∀t,(W t).cell? ⟨w.heap.size,4,none⟩=some (.slice o len cap):=fun t=>(HW t).cell 4 rfl
 have HWH:=zh HW
 have HW2H:=zh HW2
 clear HW HW2
 simp only[List.take_succ_cons,List.take_zero,List.drop_succ_cons,List.drop_zero]
 repeat (go_big_quiet_step (first | (go_at_call 86;refine (zk2 s r HR.out hs _).mono ?_;rintro e1 w1 ⟨rfl,hb⟩;exact ⟨rfl,HW2H.out _ ((HWH.out _).next hb)⟩)))
 refine wpQuiet_nil ?_
 intro t
 obtain ⟨q0,q1,q2,q3,q4,z0,z1,z2,z3,z4⟩:=(HWH.out t).five
 go_wp2
 refine bodyPost_ret (v:=.tuple #[.agg #[.int .i64 2,.int .i64 0,.int .i64 0,.string s,.slice none 0 0],.bool r]) (by simp[results,results47,go_sem,q0,q1,q2,q3,q4]) rfl ⟨rfl,?_⟩
 exact (HWH.out t).stored _ _ _ _ _
theorem zmi (n d:Int) (s:ByteArray) (o:Option Addr) (len cap:Nat) (hs:s.size≤140737488351232) (w:World) :
  Calls prog 47 #[.agg #[.int .i64 3,.int .i64 n,.int .i64 d,.string s,.slice o len cap]] w fun e w'=>e=.returned (.tuple #[.agg #[.int .i64 3,.int .i64 0,.int .i64 0,.string s,.slice none 0 0],.bool (s.data.toList.all Dat.strByte)])∧Below w.heap.size w w':=by
 obtain ⟨r,hr⟩:∃r,s.data.toList.all Dat.strByte=r:=⟨_,rfl⟩
 rw[hr]
 have HR:=zh hr
 clear hr
 go_enter func47,ntmps47
 go_wp2
 refine zaa (Two w #[.int .i64 3,.int .i64 n,.int .i64 d,.string s,.slice o len cap] 41 #[.int .i64 0,.int .i64 0,.int .i64 0,.string ByteArray.empty,.slice none 0 0]) 8 (by kernel_rfl) (by kernel_rfl) Two.drew ?_
 intro T _ W HW HW2
 have e0:∀t,(W t).cell? ⟨w.heap.size,0,none⟩=some (.int .i64 3):=fun t=>(HW t).cell 0 rfl
 have e1:∀t,(W t).cell? ⟨w.heap.size,1,none⟩=some (.int .i64 n):=fun t=>(HW t).cell 1 rfl
 have e2:∀t,(W t).cell? ⟨w.heap.size,2,none⟩=some (.int .i64 d):=fun t=>(HW t).cell 2 rfl
 have e3:∀t,(W t).cell? ⟨w.heap.size,3,none⟩=some (.string s):=fun t=>(HW t).cell 3 rfl
 have e4:∀t,(W t).cell? ⟨w.heap.size,4,none⟩=some (.slice o len cap):=fun t=>(HW t).cell 4 rfl
 have HWH:=zh HW
 have HW2H:=zh HW2
 clear HW HW2
 simp only[List.take_succ_cons,List.take_zero,List.drop_succ_cons,List.drop_zero]
 repeat (go_big_quiet_step (first | (go_at_call 87;refine (zj3 s r HR.out hs _).mono ?_;rintro e1 w1 ⟨rfl,hb⟩;exact ⟨rfl,HW2H.out _ ((HWH.out _).next hb)⟩)))
 refine wpQuiet_nil ?_
 intro t
 obtain ⟨q0,q1,q2,q3,q4,z0,z1,z2,z3,z4⟩:=(HWH.out t).five
 go_wp2
 refine bodyPost_ret (v:=.tuple #[.agg #[.int .i64 3,.int .i64 0,.int .i64 0,.string s,.slice none 0 0],.bool r]) (by simp[results,results47,go_sem,q0,q1,q2,q3,q4]) rfl ⟨rfl,?_⟩
 exact (HWH.out t).stored _ _ _ _ _
theorem zlZ (n d:Int) (s:ByteArray) (o:Option Addr) (len cap:Nat)  (w:World) :
  Calls prog 47 #[.agg #[.int .i64 4,.int .i64 n,.int .i64 d,.string s,.slice o len cap]] w fun e w'=>e=.returned (.tuple #[.agg #[.int .i64 4,.int .i64 0,.int .i64 0,.string ⟨#[]⟩,.slice none 0 0],.bool (true)])∧Below w.heap.size w w':=by
 go_enter func47,ntmps47
 go_wp2
 refine bodyPost_ret (v:=.tuple #[.agg #[.int .i64 4,.int .i64 0,.int .i64 0,.string ⟨#[]⟩,.slice none 0 0],.bool true]) (by simp[results,results47,go_sem]) rfl ⟨rfl,?_⟩
 exact ((Below.refl w.heap.size w).alloc (Nat.le_refl _) _).alloc (by simp) _
theorem zl8 (n d:Int) (s:ByteArray) (o:Option Addr) (len cap:Nat)  (w:World) :
  Calls prog 47 #[.agg #[.int .i64 5,.int .i64 n,.int .i64 d,.string s,.slice o len cap]] w fun e w'=>e=.returned (.tuple #[.agg #[.int .i64 5,.int .i64 0,.int .i64 0,.string ⟨#[]⟩,.slice none 0 0],.bool (true)])∧Below w.heap.size w w':=by
 go_enter func47,ntmps47
 go_wp2
 refine bodyPost_ret (v:=.tuple #[.agg #[.int .i64 5,.int .i64 0,.int .i64 0,.string ⟨#[]⟩,.slice none 0 0],.bool true]) (by simp[results,results47,go_sem]) rfl ⟨rfl,?_⟩
 exact ((Below.refl w.heap.size w).alloc (Nat.le_refl _) _).alloc (by simp) _
theorem zlV (n d:Int) (s:ByteArray) (o:Option Addr) (cap:Nat)  (w:World) :
  Calls prog 47 #[.agg #[.int .i64 6,.int .i64 n,.int .i64 d,.string s,.slice o 2 cap]] w fun e w'=>e=.returned (.tuple #[.agg #[.int .i64 6,.int .i64 0,.int .i64 0,.string ⟨#[]⟩,.slice o 2 cap],.bool (true)])∧Below w.heap.size w w':=by
 go_enter func47,ntmps47
 go_wp2
 go_region
 all_goals
  go_wp2
  refine bodyPost_ret (v:=.tuple #[.agg #[.int .i64 6,.int .i64 0,.int .i64 0,.string ⟨#[]⟩,.slice o 2 cap],.bool true]) (by simp[results,results47,go_sem]) rfl ⟨rfl,?_⟩
  exact (((Below.refl w.heap.size w).alloc (Nat.le_refl _) _).alloc (by simp) _).drew
theorem zlh (n d:Int) (s:ByteArray) (o:Option Addr) (len cap:Nat) (hl:((len:Int)==2)=false) (w:World) :
  Calls prog 47 #[.agg #[.int .i64 6,.int .i64 n,.int .i64 d,.string s,.slice o len cap]] w fun e w'=>e=.returned (.tuple #[.agg #[.int .i64 6,.int .i64 0,.int .i64 0,.string ⟨#[]⟩,.slice o len cap],.bool (false)])∧Below w.heap.size w w':=by
 go_enter func47,ntmps47
 go_wp2
 go_region
 all_goals
  go_wp2
  refine bodyPost_ret (v:=.tuple #[.agg #[.int .i64 6,.int .i64 0,.int .i64 0,.string ⟨#[]⟩,.slice o len cap],.bool false]) (by simp[results,results47,go_sem]) rfl ⟨rfl,?_⟩
  exact (((Below.refl w.heap.size w).alloc (Nat.le_refl _) _).alloc (by simp) _).drew
theorem zmd (n d:Int) (s:ByteArray) (o:Option Addr) (len cap:Nat)  (w:World) :
  Calls prog 47 #[.agg #[.int .i64 7,.int .i64 n,.int .i64 d,.string s,.slice o len cap]] w fun e w'=>e=.returned (.tuple #[.agg #[.int .i64 7,.int .i64 0,.int .i64 0,.string ⟨#[]⟩,.slice o len cap],.bool (true)])∧Below w.heap.size w w':=by
 go_enter func47,ntmps47
 go_wp2
 refine bodyPost_ret (v:=.tuple #[.agg #[.int .i64 7,.int .i64 0,.int .i64 0,.string ⟨#[]⟩,.slice o len cap],.bool true]) (by simp[results,results47,go_sem]) rfl ⟨rfl,?_⟩
 exact ((Below.refl w.heap.size w).alloc (Nat.le_refl _) _).alloc (by simp) _
theorem zlY (k:Int) (n d:Int) (s:ByteArray) (o:Option Addr) (len cap:Nat) (h:k<0∨7<k) (w:World) :
  Calls prog 47 #[.agg #[.int .i64 k,.int .i64 n,.int .i64 d,.string s,.slice o len cap]] w fun e w'=>e=.returned (.tuple #[.agg #[.int .i64 0,.int .i64 0,.int .i64 0,.string ⟨#[]⟩,.slice none 0 0],.bool (false)])∧Below w.heap.size w w':=by
 have c0:(k==0)=false:=by simp;omega
 have c1:(k==1)=false:=by simp;omega
 have c2:(k==2)=false:=by simp;omega
 have c3:(k==3)=false:=by simp;omega
 have c4:(k==4)=false:=by simp;omega
 have c5:(k==5)=false:=by simp;omega
 have c6:(k==6)=false:=by simp;omega
 have c7:(k==7)=false:=by simp;omega
 clear h
 go_enter func47,ntmps47
 go_wp2
 refine bodyPost_ret (v:=.tuple #[.agg #[.int .i64 0,.int .i64 0,.int .i64 0,.string ⟨#[]⟩,.slice none 0 0],.bool false]) (by simp[results,results47,go_sem]) rfl ⟨rfl,?_⟩
 exact ((Below.refl w.heap.size w).alloc (Nat.le_refl _) _).alloc (by simp) _
end
section
open Go.RowKit Go.Shelf
attribute [local go_sem] Oper.semAt_some
end
section
open Go.RowKit Go.Shelf
attribute [local go_sem] Oper.semAt_some
def Box5 (W:World) (B:Nat) (t:TypeId) (c0 c1 c2 c3 c4:Value):Prop:=W.heap[B]?=some (.cells #[c0,c1,c2,c3,c4] t (0,0))
section
variable {W W' : World} {B : Nat} {t : TypeId} {c0 c1 c2 c3 c4 : Value}
theorem Box5.lt (h:Box5 W B t c0 c1 c2 c3 c4):B<W.heap.size:=(Array.getElem?_eq_some_iff.1 h).1
theorem Box5.cells (h:Box5 W B t c0 c1 c2 c3 c4):W.cell? ⟨B,0,none⟩=some c0∧W.cell? ⟨B,1,none⟩=some c1∧W.cell? ⟨B,2,none⟩=some c2∧W.cell? ⟨B,3,none⟩=some c3∧W.cell? ⟨B,4,none⟩=some c4:=by
 have h':W.heap[B]?=_:=h
 refine ⟨?_,?_,?_,?_,?_⟩<;>simp[World.cell?,h']
theorem Box5.free (h:Box5 W B t c0 c1 c2 c3 c4):W.frozen? ⟨B,0,none⟩=false∧W.frozen? ⟨B,1,none⟩=false∧W.frozen? ⟨B,2,none⟩=false∧W.frozen? ⟨B,3,none⟩=false∧W.frozen? ⟨B,4,none⟩=false:=by
 have h':W.heap[B]?=_:=h
 refine ⟨?_,?_,?_,?_,?_⟩<;>simp[World.frozen?,h']
theorem Box5.new (W:World) (t:TypeId) (c0 c1 c2 c3 c4:Value):Box5 (W.alloc (.cells #[c0,c1,c2,c3,c4] t)) W.heap.size t c0 c1 c2 c3 c4:=World.alloc_heap_new W _
theorem zag (W:World) (a:Addr) (v:Value) {k:Nat} (h:k≠a.block):(W.setCell a v).heap[k]?=W.heap[k]?:=Below.heap_setCell W a v k h
theorem Box5.set (h:Box5 W B t c0 c1 c2 c3 c4) (d0 d1 d2 d3 d4:Value) :
  Box5 (((((W.setCell ⟨B,0,none⟩ d0).setCell ⟨B,1,none⟩ d1).setCell ⟨B,2,none⟩ d2).setCell ⟨B,3,none⟩ d3).setCell ⟨B,4,none⟩ d4) B t d0 d1 d2 d3 d4:=by
 obtain ⟨hlt,hk⟩:=Array.getElem?_eq_some_iff.1 h
 simp only[Box5,World.setCell,Array.getElem?_modify,↓reduceIte]
 rw[show W.heap[B]?=_ from h]
 rfl
end
abbrev set5 (W:World) (B:Nat) (d0 d1 d2 d3 d4:Value):World:=((((W.setCell ⟨B,0,none⟩ d0).setCell ⟨B,1,none⟩ d1).setCell ⟨B,2,none⟩ d2).setCell ⟨B,3,none⟩ d3).setCell ⟨B,4,none⟩ d4
theorem zgD (W:World) (B H:Nat) (d0 d1 d2 d3 d4:Value) (h:H≤B):Below H W (set5 W B d0 d1 d2 d3 d4):=
 (((((Below.refl H W).setCell (p:=⟨B,0,none⟩) h _).setCell (p:=⟨B,1,none⟩) h _).setCell (p:=⟨B,2,none⟩) h _).setCell (p:=⟨B,3,none⟩) h _).setCell (p:=⟨B,4,none⟩) h _
end
section
open Go.RowKit
end
section
open Go.RowKit
theorem zgZ (s:ByteArray) (x y:Int) (z:Bool) (hp:Num.parse s.data.toList=(x,y,z)) (hs:s.size≤140737488351232) (w:World) :
  Calls prog 107 #[.string s] w fun e w'=>e=.returned (.tuple #[.int .i64 x,.int .i64 y,.bool z])∧Below w.heap.size w w':=by
 have:=zgt s (by omega) w
 rw[hp] at this;exact this
def marks11:List UInt8:=[45,43,42,47,60,62,61,33,63,95,37]
theorem zbb:∀b:UInt8,Dat.nameByte b=((decide (97≤b.toNat)&&decide (b.toNat≤122)) || (decide (48≤b.toNat)&&decide (b.toNat≤57)) || marks11.contains b):=by
 intro b
 have h:∀n,n<256→Dat.nameByte (UInt8.ofNat n)=((decide (97≤(UInt8.ofNat n).toNat)&&decide ((UInt8.ofNat n).toNat≤122)) || (decide (48≤(UInt8.ofNat n).toNat)&&decide ((UInt8.ofNat n).toNat≤57)) || marks11.contains (UInt8.ofNat n)):=by decide +kernel
 have:=h b.toNat (UInt8.toNat_lt b)
 rwa[UInt8.ofNat_toNat] at this
theorem zij (x:Int):(97≤x∧x≤122)∨(48≤x∧x≤57)∨x<48∨(57<x∧x<97)∨122<x:=by omega
theorem zby {base:Bool} {b c:UInt8} {q:Nat} (h:(base || (marks11.take q).contains b)=true) (_:marks11[q]?=some c):(base || (marks11.take (q+1)).contains b)=true:=by
 rw[List.take_add_one]
 simp only[Bool.or_eq_true,List.contains_iff_mem,List.mem_append] at h ⊢
 rcases h with h | h
 ·exact .inl h
 ·exact .inr (.inl h)
theorem zdM {base:Bool} {b c:UInt8} {q:Nat} (hc:marks11[q]?=some c) (he:((b.toNat:Int)==(c.toNat:Int))=true):(base || (marks11.take (q+1)).contains b)=true:=by
 have e:b=c:=UInt8.toNat_inj.1 (by have:=beq_iff_eq.1 he;omega)
 rw[List.take_add_one,hc,e]
 simp
theorem zcP {base:Bool} {b c:UInt8} {q:Nat} (h:(base || (marks11.take q).contains b)=false) (hc:marks11[q]?=some c) (he:((b.toNat:Int)==(c.toNat:Int))=false):(base || (marks11.take (q+1)).contains b)=false:=by
 have e:¬b=c:=by rintro rfl;simp at he
 rw[List.take_add_one,hc]
 simp only[Bool.or_eq_false_iff] at h ⊢
 refine ⟨h.1,?_⟩
 rw[←Bool.not_eq_true,List.contains_iff_mem,List.mem_append]
 have h2:=h.2
 rw[←Bool.not_eq_true,List.contains_iff_mem] at h2
 rintro (h' | h')
 ·exact h2 h'
 ·simp only[Option.toList_some,List.mem_singleton] at h';exact e h'
theorem zg7 {b:UInt8} (h:(97≤(b.toNat:Int)∧(b.toNat:Int)≤122)∨(48≤(b.toNat:Int)∧(b.toNat:Int)≤57)):((decide (97≤b.toNat)&&decide (b.toNat≤122)) || (decide (48≤b.toNat)&&decide (b.toNat≤57)))=true:=by
 simp only[Bool.or_eq_true,Bool.and_eq_true,decide_eq_true_eq];omega
theorem zhL {b:UInt8} (h:¬((97≤(b.toNat:Int)∧(b.toNat:Int)≤122)∨(48≤(b.toNat:Int)∧(b.toNat:Int)≤57))):((decide (97≤b.toNat)&&decide (b.toNat≤122)) || (decide (48≤b.toNat)&&decide (b.toNat≤57)))=false:=by
 rw[←Bool.not_eq_true]
 simp only[Bool.or_eq_true,Bool.and_eq_true,decide_eq_true_eq];omega
theorem zbC {p:UInt8→Bool} {l:List UInt8} {j:Nat} (h:∀b∈l.take j,p b=true) (hj:j<l.length) (hp:p l[j]=true):∀b∈l.take (j+1),p b=true:=by
 intro b hb
 rw[List.take_add_one,List.getElem?_eq_getElem hj] at hb
 rcases List.mem_append.1 hb with h' | h'
 ·exact h b h'
 ·simp only[Option.toList_some,List.mem_singleton] at h';rw[h'];exact hp
theorem zc2 {p:UInt8→Bool} {l:List UInt8} {i:Nat} (hj:i<l.length) (hp:p l[i]=false):l.all p=false:=by
 rw[List.all_eq_false]
 exact ⟨l[i],List.getElem_mem hj,by simp[hp]⟩
theorem zh1 (s:ByteArray) (hs:s.size≤140737488351232) (w:World) :
  Calls prog 98 #[.string s] w fun e w'=>e=.returned (.bool (Dat.name s.data.toList))∧Below w.heap.size w w':=by
 have hl:s.data.toList.length=s.size:=rfl
 obtain ⟨r,hr⟩:∃r,Dat.name s.data.toList=r:=⟨_,rfl⟩
 rw[hr]
 unfold Dat.name at hr
 rw[hl] at hr
 by_cases h0:s.size<1
 ·have HR:=zh (show r=false by rw[←hr,decide_eq_false (by omega:¬1≤s.size)];rfl)
  clear hr
  go_enter func98,ntmps98
  go_wp2
  go_ret
  exact ⟨zah HR.out.symm,Below.self _⟩
 by_cases h40:40<s.size
 ·have HR:=zh (show r=false by rw[←hr,decide_eq_false (by omega:¬s.size≤40)];simp)
  clear hr
  go_enter func98,ntmps98
  go_wp2
  go_ret
  exact ⟨zah HR.out.symm,Below.self _⟩
 rw[decide_eq_true (by omega:1≤s.size),decide_eq_true (by omega:s.size≤40)] at hr
 simp only[Bool.true_and] at hr
 have HR:=zh hr
 have HS:=zh (Below.refl w.heap.size w)
 clear hr
 go_enter func98,ntmps98
 go_wp2_with fail
 generalize hM:(⟨#[45,43,42,47,60,62,61,33,63,95,37]⟩:ByteArray)=M
 have hM1:M.size=11:=by rw[←hM];rfl
 have hM2:M.data.toList=marks11:=by rw[←hM];rfl
 have HM1:=zh hM1
 have HM2:=zh hM2
 clear hM hM2
 go_loopg [4] s.size (fun g i wr=>∃j:Nat,g=s.size-j∧j≤s.size∧i=.int .i64 j∧(∀b∈s.data.toList.take j,Dat.nameByte b=true)∧Below w.heap.size w wr)
 case atStart=>exact ⟨0,rfl,by omega,rfl,by simp,HS.out⟩
 case round=>
  obtain ⟨j,rfl,hj,rfl,hall,hb⟩:=hrel
  have HA:=zh hall
  have HB:=zh hb
  have hsz:=hb.size
  clear hall hb
  by_cases hjl:j<s.size
  ·rcases zij (s[j].toNat:Int) with ⟨h1,h2⟩ | ⟨h1,h2⟩ | h1 | ⟨h1,h2⟩ | h1
   ·skip
    go_wp2_with fail
    go_loopg [5,6] 11 (fun g ok k wr=>∃(q:Nat) (v:Bool),g=11-q∧q≤11∧k=.int .i64 q∧ok=.bool v∧(true || (marks11.take q).contains s[j])=v∧Below w.heap.size w wr)
    case atStart=>exact ⟨0,true,rfl,by omega,rfl,rfl,rfl,HB.out⟩
    case round=>
     obtain ⟨q,v,rfl,hq,rfl,rfl,hv,hb⟩:=hrel
     have HV:=zh hv
     have HB2:=zh hb
     have hsz2:=hb.size
     clear hv hb
     by_cases hql:q<11
     ·have hqM:q<M.size:=by rw[hM1];exact hql
      have hmq:marks11[q]?=some M[q]:=by rw[←HM2.out];exact List.getElem?_eq_getElem (by simpa using hqM)
      have HMQ:=zh hmq
      clear hmq
      cases v with
      | true=>
       go_wp2_with fail
       go_region
       all_goals
        go_wp2_with fail
        go_roundg (11-(q+1))
        case measure=>omega
        case rel=>exact ⟨q+1,true,rfl,by omega,by go_num,rfl,zby HV.out HMQ.out,by first | exact HB2.out.drew | exact HB2.out | fail⟩
      | false=>
       exact absurd HV.out (by simp)
     ·have hq11:q=11:=by omega
      subst hq11
      have HN:=zh (show Dat.nameByte s[j]=v by
       rw[zbb,←HV.out]
       simp only[show marks11.take 11=marks11 from rfl]
       congr 1
       exact zg7 (by omega))
      cases v with
      | true=>
       go_wp2_with fail
       go_roundg (s.size-(j+1))
       case measure=>omega
       case rel=>exact ⟨j+1,rfl,by omega,by go_num,zbC HA.out (hl ▸ hjl) HN.out,HB2.out⟩
      | false=>
       have HF:=zh (show r=false by rw[←HR.out,zc2 (i:=j) (hl ▸ hjl) HN.out];rfl)
       go_wp2_with fail
       go_ret
       exact ⟨zah HF.out.symm,HB2.out⟩
   ·skip
    go_wp2_with fail
    go_loopg [5,6] 11 (fun g ok k wr=>∃(q:Nat) (v:Bool),g=11-q∧q≤11∧k=.int .i64 q∧ok=.bool v∧(true || (marks11.take q).contains s[j])=v∧Below w.heap.size w wr)
    case atStart=>exact ⟨0,true,rfl,by omega,rfl,rfl,rfl,HB.out⟩
    case round=>
     obtain ⟨q,v,rfl,hq,rfl,rfl,hv,hb⟩:=hrel
     have HV:=zh hv
     have HB2:=zh hb
     have hsz2:=hb.size
     clear hv hb
     by_cases hql:q<11
     ·have hqM:q<M.size:=by rw[hM1];exact hql
      have hmq:marks11[q]?=some M[q]:=by rw[←HM2.out];exact List.getElem?_eq_getElem (by simpa using hqM)
      have HMQ:=zh hmq
      clear hmq
      cases v with
      | true=>
       go_wp2_with fail
       go_region
       all_goals
        go_wp2_with fail
        go_roundg (11-(q+1))
        case measure=>omega
        case rel=>exact ⟨q+1,true,rfl,by omega,by go_num,rfl,zby HV.out HMQ.out,by first | exact HB2.out.drew | exact HB2.out | fail⟩
      | false=>
       exact absurd HV.out (by simp)
     ·have hq11:q=11:=by omega
      subst hq11
      have HN:=zh (show Dat.nameByte s[j]=v by
       rw[zbb,←HV.out]
       simp only[show marks11.take 11=marks11 from rfl]
       congr 1
       exact zg7 (by omega))
      cases v with
      | true=>
       go_wp2_with fail
       go_roundg (s.size-(j+1))
       case measure=>omega
       case rel=>exact ⟨j+1,rfl,by omega,by go_num,zbC HA.out (hl ▸ hjl) HN.out,HB2.out⟩
      | false=>
       have HF:=zh (show r=false by rw[←HR.out,zc2 (i:=j) (hl ▸ hjl) HN.out];rfl)
       go_wp2_with fail
       go_ret
       exact ⟨zah HF.out.symm,HB2.out⟩
   ·skip
    go_wp2_with fail
    go_loopg [5,6] 11 (fun g ok k wr=>∃(q:Nat) (v:Bool),g=11-q∧q≤11∧k=.int .i64 q∧ok=.bool v∧(false || (marks11.take q).contains s[j])=v∧Below w.heap.size w wr)
    case atStart=>exact ⟨0,false,rfl,by omega,rfl,rfl,rfl,HB.out⟩
    case round=>
     obtain ⟨q,v,rfl,hq,rfl,rfl,hv,hb⟩:=hrel
     have HV:=zh hv
     have HB2:=zh hb
     have hsz2:=hb.size
     clear hv hb
     by_cases hql:q<11
     ·have hqM:q<M.size:=by rw[hM1];exact hql
      have hmq:marks11[q]?=some M[q]:=by rw[←HM2.out];exact List.getElem?_eq_getElem (by simpa using hqM)
      have HMQ:=zh hmq
      clear hmq
      cases v with
      | true=>
       go_wp2_with fail
       go_region
       all_goals
        go_wp2_with fail
        go_roundg (11-(q+1))
        case measure=>omega
        case rel=>exact ⟨q+1,true,rfl,by omega,by go_num,rfl,zby HV.out HMQ.out,by first | exact HB2.out.drew | exact HB2.out | fail⟩
      | false=>
       cases he:((s[j].toNat:Int)==(M[q].toNat:Int)) with
       | true=>
        go_wp2_with fail
        go_region
        all_goals
         go_wp2_with fail
         go_roundg (11-(q+1))
         case measure=>omega
         case rel=>exact ⟨q+1,true,rfl,by omega,by go_num,rfl,zdM HMQ.out he,by first | exact HB2.out.drew | exact HB2.out | fail⟩
       | false=>
        go_wp2_with fail
        go_region
        all_goals
         go_wp2_with fail
         go_roundg (11-(q+1))
         case measure=>omega
         case rel=>exact ⟨q+1,false,rfl,by omega,by go_num,rfl,zcP HV.out HMQ.out he,by first | exact HB2.out.drew | exact HB2.out | fail⟩
     ·have hq11:q=11:=by omega
      subst hq11
      have HN:=zh (show Dat.nameByte s[j]=v by
       rw[zbb,←HV.out]
       simp only[show marks11.take 11=marks11 from rfl]
       congr 1
       exact zhL (by omega))
      cases v with
      | true=>
       go_wp2_with fail
       go_roundg (s.size-(j+1))
       case measure=>omega
       case rel=>exact ⟨j+1,rfl,by omega,by go_num,zbC HA.out (hl ▸ hjl) HN.out,HB2.out⟩
      | false=>
       have HF:=zh (show r=false by rw[←HR.out,zc2 (i:=j) (hl ▸ hjl) HN.out];rfl)
       go_wp2_with fail
       go_ret
       exact ⟨zah HF.out.symm,HB2.out⟩
   ·skip
    have h57:decide ((s[j].toNat:Int)≤57)=false:=decide_eq_false (by omega)
    go_wp2_with fail
    go_loopg [5,6] 11 (fun g ok k wr=>∃(q:Nat) (v:Bool),g=11-q∧q≤11∧k=.int .i64 q∧ok=.bool v∧(false || (marks11.take q).contains s[j])=v∧Below w.heap.size w wr)
    case atStart=>exact ⟨0,false,rfl,by omega,rfl,rfl,rfl,HB.out⟩
    case round=>
     obtain ⟨q,v,rfl,hq,rfl,rfl,hv,hb⟩:=hrel
     have HV:=zh hv
     have HB2:=zh hb
     have hsz2:=hb.size
     clear hv hb
     by_cases hql:q<11
     ·have hqM:q<M.size:=by rw[hM1];exact hql
      have hmq:marks11[q]?=some M[q]:=by rw[←HM2.out];exact List.getElem?_eq_getElem (by simpa using hqM)
      have HMQ:=zh hmq
      clear hmq
      cases v with
      | true=>
       go_wp2_with fail
       go_region
       all_goals
        go_wp2_with fail
        go_roundg (11-(q+1))
        case measure=>omega
        case rel=>exact ⟨q+1,true,rfl,by omega,by go_num,rfl,zby HV.out HMQ.out,by first | exact HB2.out.drew | exact HB2.out | fail⟩
      | false=>
       cases he:((s[j].toNat:Int)==(M[q].toNat:Int)) with
       | true=>
        go_wp2_with fail
        go_region
        all_goals
         go_wp2_with fail
         go_roundg (11-(q+1))
         case measure=>omega
         case rel=>exact ⟨q+1,true,rfl,by omega,by go_num,rfl,zdM HMQ.out he,by first | exact HB2.out.drew | exact HB2.out | fail⟩
       | false=>
        go_wp2_with fail
        go_region
        all_goals
         go_wp2_with fail
         go_roundg (11-(q+1))
         case measure=>omega
         case rel=>exact ⟨q+1,false,rfl,by omega,by go_num,rfl,zcP HV.out HMQ.out he,by first | exact HB2.out.drew | exact HB2.out | fail⟩
     ·have hq11:q=11:=by omega
      subst hq11
      have HN:=zh (show Dat.nameByte s[j]=v by
       rw[zbb,←HV.out]
       simp only[show marks11.take 11=marks11 from rfl]
       congr 1
       exact zhL (by omega))
      cases v with
      | true=>
       go_wp2_with fail
       go_roundg (s.size-(j+1))
       case measure=>omega
       case rel=>exact ⟨j+1,rfl,by omega,by go_num,zbC HA.out (hl ▸ hjl) HN.out,HB2.out⟩
      | false=>
       have HF:=zh (show r=false by rw[←HR.out,zc2 (i:=j) (hl ▸ hjl) HN.out];rfl)
       go_wp2_with fail
       go_ret
       exact ⟨zah HF.out.symm,HB2.out⟩
   ·skip
    have h57:decide ((s[j].toNat:Int)≤57)=false:=decide_eq_false (by omega)
    have h122:decide ((s[j].toNat:Int)≤122)=false:=decide_eq_false (by omega)
    go_wp2_with fail
    go_loopg [5,6] 11 (fun g ok k wr=>∃(q:Nat) (v:Bool),g=11-q∧q≤11∧k=.int .i64 q∧ok=.bool v∧(false || (marks11.take q).contains s[j])=v∧Below w.heap.size w wr)
    case atStart=>exact ⟨0,false,rfl,by omega,rfl,rfl,rfl,HB.out⟩
    case round=>
     obtain ⟨q,v,rfl,hq,rfl,rfl,hv,hb⟩:=hrel
     have HV:=zh hv
     have HB2:=zh hb
     have hsz2:=hb.size
     clear hv hb
     by_cases hql:q<11
     ·have hqM:q<M.size:=by rw[hM1];exact hql
      have hmq:marks11[q]?=some M[q]:=by rw[←HM2.out];exact List.getElem?_eq_getElem (by simpa using hqM)
      have HMQ:=zh hmq
      clear hmq
      cases v with
      | true=>
       go_wp2_with fail
       go_region
       all_goals
        go_wp2_with fail
        go_roundg (11-(q+1))
        case measure=>omega
        case rel=>exact ⟨q+1,true,rfl,by omega,by go_num,rfl,zby HV.out HMQ.out,by first | exact HB2.out.drew | exact HB2.out | fail⟩
      | false=>
       cases he:((s[j].toNat:Int)==(M[q].toNat:Int)) with
       | true=>
        go_wp2_with fail
        go_region
        all_goals
         go_wp2_with fail
         go_roundg (11-(q+1))
         case measure=>omega
         case rel=>exact ⟨q+1,true,rfl,by omega,by go_num,rfl,zdM HMQ.out he,by first | exact HB2.out.drew | exact HB2.out | fail⟩
       | false=>
        go_wp2_with fail
        go_region
        all_goals
         go_wp2_with fail
         go_roundg (11-(q+1))
         case measure=>omega
         case rel=>exact ⟨q+1,false,rfl,by omega,by go_num,rfl,zcP HV.out HMQ.out he,by first | exact HB2.out.drew | exact HB2.out | fail⟩
     ·have hq11:q=11:=by omega
      subst hq11
      have HN:=zh (show Dat.nameByte s[j]=v by
       rw[zbb,←HV.out]
       simp only[show marks11.take 11=marks11 from rfl]
       congr 1
       exact zhL (by omega))
      cases v with
      | true=>
       go_wp2_with fail
       go_roundg (s.size-(j+1))
       case measure=>omega
       case rel=>exact ⟨j+1,rfl,by omega,by go_num,zbC HA.out (hl ▸ hjl) HN.out,HB2.out⟩
      | false=>
       have HF:=zh (show r=false by rw[←HR.out,zc2 (i:=j) (hl ▸ hjl) HN.out];rfl)
       go_wp2_with fail
       go_ret
       exact ⟨zah HF.out.symm,HB2.out⟩
  ·obtain rfl:j=s.size:=by omega
   rw[←hl,List.take_length] at HA
   have HT:=zh (List.all_eq_true.2 HA.out)
   obtain ⟨x,y,z,hp⟩:∃x y z,Num.parse s.data.toList=(x,y,z):=⟨_,_,_,rfl⟩
   have HP:=zh hp
   have HF:=zh (show r = !z by rw[←HR.out,HT.out,hp];rfl)
   clear hp
   go_wp2_with fail
   refine (zgZ s x y z HP.out hs _).mono ?_
   rintro e' w1 ⟨rfl,hb1⟩
   go_wp2
   go_ret
   exact ⟨zah HF.out.symm,Below.next HB.out hb1⟩
end
section
open Go.RowKit Go.Deep Go.ChangeShapes Go.WideShapes Go.ChangeAt
def SlC {α:Type} (w:World) (B size:Nat) (R:α→List Value→Prop) (l:List α) (v:Value):Prop:=
 ∃(o:Option Addr) (len cap:Nat),v=.slice o len cap∧len=l.length∧len≤cap∧cap≤9223372036854775807 ∧
  (match o with
   | none=>l=[]∧cap=0
   | some a=>(l≠[]→a.spot=none∧a.block<B)∧∀(i:Nat) (x:α),l[i]?=some x→∃cs:List Value,cs.length=size∧(∀j u,cs[j]?=some u→w.cell? ⟨a.block,a.off+i*size+j,none⟩=some u)∧R x cs)
theorem SlC.kept {α:Type} {w w':World} {B size:Nat} {R R':α→List Value→Prop} {l:List α} {v:Value} (h:SlC w B size R l v) (hb:Below B w w') (hR:∀x∈l,∀cs,R x cs→R' x cs):SlC w' B size R' l v:=by
 obtain ⟨o,len,cap,rfl,h1,h2,h3,h4⟩:=h
 refine ⟨o,len,cap,rfl,h1,h2,h3,?_⟩
 cases o with
 | none=>exact h4
 | some a=>
  refine ⟨h4.1,fun i x hx=>?_⟩
  obtain ⟨cs,hl,hc,hr⟩:=h4.2 i x hx
  have hlt:=(h4.1 (by intro h;rw[h] at hx;simp at hx)).2
  exact ⟨cs,hl,fun j u hu=>(hb.cell (p:=⟨a.block,_,none⟩) hlt).trans (hc j u hu),hR x (List.mem_of_getElem? hx) cs hr⟩
theorem SlC.wider {α:Type} {w:World} {B B' size:Nat} {R:α→List Value→Prop} {l:List α} {v:Value} (h:SlC w B size R l v) (hB:B≤B'):SlC w B' size R l v:=by
 obtain ⟨o,len,cap,rfl,h1,h2,h3,h4⟩:=h
 refine ⟨o,len,cap,rfl,h1,h2,h3,?_⟩
 cases o with
 | none=>exact h4
 | some a=>exact ⟨fun hl=>⟨(h4.1 hl).1,Nat.lt_of_lt_of_le (h4.1 hl).2 hB⟩,h4.2⟩
theorem SlC.slice {α:Type} {w:World} {B size:Nat} {R:α→List Value→Prop} {l:List α} {v:Value} (h:SlC w B size R l v):∃o len cap,v=.slice o len cap∧len=l.length∧len≤cap∧cap≤9223372036854775807:=by
 obtain ⟨o,len,cap,h1,h2,h3,h4,_⟩:=h
 exact ⟨o,len,cap,h1,h2,h3,h4⟩
theorem SlC.at {α:Type} {w wr:World} {B size:Nat} {R:α→List Value→Prop} {l:List α} {o:Option Addr} {len cap j:Nat} {x:α} (h:SlC w B size R l (.slice o len cap)) (hb:Below B w wr) (hx:l[j]?=some x) :
  ∃b off cs,o=some ⟨b,off,none⟩∧b<B∧cs.length=size∧(∀q u,cs[q]?=some u→wr.cell? ⟨b,off+j*size+q,none⟩=some u)∧R x cs:=by
 obtain ⟨o2,len2,cap2,he,_,_,_,h4⟩:=h
 simp only[Value.slice.injEq] at he
 obtain ⟨rfl,rfl,rfl⟩:=he
 cases o with
 | none=>rw[h4.1] at hx;simp at hx
 | some a=>
  obtain ⟨cs,hl,hc,hr⟩:=h4.2 j x hx
  obtain ⟨hs,hlt⟩:=h4.1 (by intro h;rw[h] at hx;simp at hx)
  obtain ⟨b,off,sp⟩:=a
  obtain rfl:sp=none:=hs
  exact ⟨b,off,cs,rfl,hlt,hl,fun q u hu=>(hb.cell (p:=⟨b,off+j*size+q,none⟩) hlt).trans (hc q u hu),hr⟩
section
variable {H : Type} {enc : TypeId × Value → H}
theorem zcG {α:Type} {len:Nat} {P:Nat→α→Prop} (h:∀i,i<len→∃x,P i x):∃l:List α,l.length=len∧∀i x,l[i]?=some x→P i x:=by
 induction len with
 | zero=>exact ⟨[],rfl,fun i x hx=>by simp at hx⟩
 | succ n ih=>
  obtain ⟨l,hl,hP⟩:=ih (fun i hi=>h i (by omega))
  obtain ⟨x,hx⟩:=h n (by omega)
  refine ⟨l++[x],by simp[hl],fun i y hy=>?_⟩
  by_cases hi:i<n
  ·rw[List.getElem?_append_left (by omega)] at hy
   exact hP i y hy
  ·rw[List.getElem?_append_right (by omega)] at hy
   have:i=n:=by
    have:=(List.getElem?_eq_some_iff.1 hy).1
    simp at this;omega
   subst this
   simp[hl] at hy
   rw[←hy];exact hx
theorem zcA {α:Type} {w:World} {ts te:TypeId} {size bs:Nat} (hu:prog.underlying ts=some (.slice te)) (hcs:prog.cellsOf te=size) (hbs:prog.bytesOf te=bs) (hpos:0<size) (hbp:0<bs) {R:α→List Value→Prop}
  (hel:∀n' cs' y,DataW.trod enc prog w 0 (fun _=>true) true n' te cs'=some y→(∀n∈y.1.weights prog te,n≤reachBytes)→∃x,R x cs')
  (fuel:Nat) (c4:Value) (x4:DataW H × List MemPlace) (g4:DataW.trod enc prog w 0 (fun _=>true) true fuel ts [c4]=some x4) (w4:∀n∈x4.1.weights prog ts,n≤reachBytes):∃l:List α,SlC w w.heap.size size R l c4:=by
 rcases DataW.trod_slice hu g4 with ⟨e4,_⟩ | ⟨a,len,cap,elems,rest,n',rfl,e4,hx4,_,hle,_,hel2,hget4,hsp,_⟩
 ·have f4:c4=.slice none 0 0:=by simpa using e4
  subst f4
  exact ⟨[],none,0,0,rfl,rfl,by omega,by omega,rfl,rfl⟩
 ·have f4:c4=.slice (some a) len cap:=by simpa using e4
  subst f4 hx4
  have hrest:=(hsp rfl).1
  have hcap:cap≤9223372036854775807:=by
   have:=w4 ((elems.length+rest.length)*bs) (by simp[DataW.weights,hu,hbs])
   have h9:(elems.length+rest.length)*bs≤140737488351232:=this
   have h10:(elems.length+rest.length)*1≤(elems.length+rest.length)*bs:=Nat.mul_le_mul_left _ hbp
   omega
  by_cases h0:len=0
  ·subst h0
   exact ⟨[],some a,0,cap,rfl,rfl,by omega,hcap,fun h=>absurd rfl h,fun i x hx=>by simp at hx⟩
  have hat:∀i (hi:i<len),∃cs',w.cells? 0 (a.add (i*size)) size=some cs'∧DataW.trod enc prog w 0 (fun _=>true) true n' te cs'=some (elems[i]'(by omega)):=by
   intro i hi
   have hb:=hget4 i hi
   rw[hcs,List.getElem?_eq_getElem (by omega)] at hb
   exact Option.bind_eq_some_iff.1 hb
  obtain ⟨hspot,hblk⟩:a.spot=none∧a.block<w.heap.size:=by
   obtain ⟨cs',hc1,_⟩:=hat 0 (by omega)
   obtain ⟨_,hl5,hcs⟩:=World.cells?_some hc1
   have h00:=hcs 0 (by omega)
   rw[List.getElem?_eq_getElem (by omega)] at h00
   have:=zbr h00
   simpa[Addr.add] using this
  have hcell:∀i,i<len→∃x:α,∃cs:List Value,cs.length=size∧(∀j u,cs[j]?=some u→w.cell? ⟨a.block,a.off+i*size+j,none⟩=some u)∧R x cs:=by
   intro i hi
   obtain ⟨cs',hc1,hc2⟩:=hat i hi
   obtain ⟨_,hl5,hcs⟩:=World.cells?_some hc1
   rw[zaP hspot] at hcs
   obtain ⟨x,hx⟩:=hel n' _ _ hc2 (fun q hq=>w4 q (by
     simp only[DataW.weights,hu,List.mem_cons,List.mem_append]
     refine Or.inr (Or.inl (zaR (d:=(elems[i]'(by omega)).1) ?_ q hq))
     exact List.mem_map_of_mem (List.getElem_mem _)))
   refine ⟨x,cs',hl5,fun j u hj=>?_,hx⟩
   have hjl:j<size:=by have:=(List.getElem?_eq_some_iff.1 hj).1;omega
   have:=hcs j hjl
   rw[zaP rfl] at this
   rw[←hj];exact this
  obtain ⟨l,hl,hP⟩:=zcG hcell
  exact ⟨l,some a,len,cap,rfl,hl.symm,hle,hcap,fun _=>⟨hspot,hblk⟩,fun i x hx=>hP i x hx⟩
end
def IntR (n:Int) (cs:List Value):Prop:=cs=[.int .i64 n]∧-9223372036854775808≤n∧n≤9223372036854775807
section
variable {H : Type} {enc : TypeId × Value → H}
end
end
section
open Go.RowKit
theorem zdz {p:Dat→Bool} {l:List Dat} {j:Nat} {x:Dat} (hx:l[j]?=some x) (h:(l.take j).any p=false) (hp:p x=false):(l.take (j+1)).any p=false:=by
 rw[List.take_add_one,hx]
 simp[h,hp]
theorem ziI {p:Dat→Bool} {l:List Dat} {j:Nat} {x:Dat} (hx:l[j]?=some x) (hp:p x=true):l.any p=true:=
 List.any_eq_true.2 ⟨x,List.mem_of_getElem? hx,hp⟩
def IdxPost (b:Bool) (w:World) (e:Ending) (w':World):Prop:=∃r:Int,e=.returned (.int .i64 r)∧decide (0≤r)=b∧Below w.heap.size w w'
theorem zdC (F:FuncId) (caps:Array Value) (p:Dat→Bool) (l:List Dat) (o:Option Addr) (len cap:Nat) (B:Nat) (w:World) (hl:len=l.length) (hcap:len≤cap) (hmax:cap≤9223372036854775807)
  (hv:match o with | none=>l=[]∧cap=0 | some a=>(l≠[]→a.spot=none∧a.block<B)∧RepC w B l a.block a.off) (hB:B≤w.heap.size)
  (hF:∀(args:Array Value) (w:World),(callFunc F args).run prog w=.ok (.enter F args) w)
  (H:∀x∈l,∀v w',RepD w' B x v→Below w.heap.size w w'→Calls prog F (#[v]++caps) w' fun e w''=>e=.returned (.bool (p x))∧Below w'.heap.size w' w'') :
  Calls prog 45 #[.slice o len cap,.func (.func F) #[] caps] w (IdxPost (l.any p) w):=by
 obtain ⟨r,hr⟩:∃r,l.any p=r:=⟨_,rfl⟩
 rw[hr]
 have HR:=zh hr
 have HV:=zh hv
 have HL:=zh hl
 have HH:=zh H
 clear hr hv hl H
 go_enter func45,ntmps45
 go_wp2
 go_loopw [8] (fun i wr=>∃(j:Nat),i=.int .i64 j∧j≤len∧(l.take j).any p=false∧Below w.heap.size w wr) (fun i _=>len-(intOf i).toNat)
 case atStart=>exact ⟨0,rfl,by omega,rfl,Below.refl _ _⟩
 case round=>
  obtain ⟨j,rfl,hj,hany,hb⟩:=hrel
  have HA:=zh hany
  clear hany
  by_cases hjl:j<len
  ·obtain ⟨x,hx⟩:∃x,l[j]?=some x:=⟨_,List.getElem?_eq_getElem (by rw[←HL.out];exact hjl)⟩
   obtain ⟨b,off,k',n',d',s',l',o',len',cap',ho,hxe,e0,e1,e2,e3,e4,er⟩:=za8 HV.out (hb.mono hB) hx
   subst ho hxe
   have HC:=zh (HH.out _ (List.mem_of_getElem? hx) _ wr er hb)
   have HX:=zh hx
   clear hx er
   cases hp:p (.mk k' n' d' s' l') with
   | true=>
    rw[hp] at HC
    have HT:=zh (ziI HX.out hp)
    clear hp
    go_wp2_with (first | ((with_reducible refine HC.out.mono ?_);rintro e' w1 ⟨rfl,hb1⟩))
    go_ret
    exact ⟨j,rfl,by rw[←HR.out,HT.out];simp,Below.next hb hb1⟩
   | false=>
    rw[hp] at HC
    have HT:=zh (zdz HX.out HA.out hp)
    clear hp
    go_wp2_with (first | ((with_reducible refine HC.out.mono ?_);rintro e' w1 ⟨rfl,hb1⟩))
    go_roundw
    case rel=>exact ⟨j+1,by go_num,by omega,HT.out,Below.next hb hb1⟩
    case measure=>simp[intOf];omega
  ·have HF:=zh (show l.any p=false by rw[←HA.out,List.take_of_length_le (by rw[←HL.out];omega)])
   go_wp2
   go_ret
   exact ⟨-1,rfl,by rw[←HR.out,HF.out];rfl,hb⟩
theorem zcs (F:FuncId) (caps:Array Value) (p:Dat→Bool) (r:Bool) (l:List Dat) (o:Option Addr) (len cap:Nat) (B:Nat) (w:World) (hl:len=l.length) (hcap:len≤cap) (hmax:cap≤9223372036854775807)
  (hv:match o with | none=>l=[]∧cap=0 | some a=>(l≠[]→a.spot=none∧a.block<B)∧RepC w B l a.block a.off) (hB:B≤w.heap.size)
  (hF:∀(args:Array Value) (w:World),(callFunc F args).run prog w=.ok (.enter F args) w)
  (H:∀x∈l,∀v w',RepD w' B x v→Below w.heap.size w w'→Calls prog F (#[v]++caps) w' fun e w''=>e=.returned (.bool (p x))∧Below w'.heap.size w' w'') (hr:l.any p=r) :
  Calls prog 22 #[.slice o len cap,.func (.func F) #[] caps] w fun e w'=>e=.returned (.bool r)∧Below w.heap.size w w':=by
 have HI:=zh (zdC F caps p l o len cap B w hl hcap hmax hv hB hF H)
 rw[hr] at HI
 clear hr hv hl H hF
 go_enter func22,ntmps22
 go_wp2_with (first | (go_at_call 45;refine HI.out.mono ?_;rintro e' w1 ⟨q,rfl,hq,hb⟩))
 subst hq
 go_ret
 exact ⟨by simp,hb⟩
theorem zbi (F:FuncId) (caps:Array Value) (p:Dat→Bool) (r:Bool) (l:List Dat) (sl:Value) (B:Nat) (w:World) (hv:RepS w B l sl) (hB:B≤w.heap.size)
  (hF:∀(args:Array Value) (w:World),(callFunc F args).run prog w=.ok (.enter F args) w)
  (H:∀x∈l,∀v w',RepD w' B x v→Below w.heap.size w w'→Calls prog F (#[v]++caps) w' fun e w''=>e=.returned (.bool (p x))∧Below w'.heap.size w' w'') (hr:l.any p=r) :
  Calls prog 22 #[sl,.func (.func F) #[] caps] w fun e w'=>e=.returned (.bool r)∧Below w.heap.size w w':=by
 obtain ⟨o,len,cap,rfl,hl,hcap,hmax,hv⟩:=hv
 exact zcs F caps p r l o len cap B w hl hcap hmax hv hB hF H hr
end
section
open Go.RowKit
theorem zcU (w:World) (A:Obj):(w.alloc A).heap.size=w.heap.size+1:=by simp
theorem zh0 (w:World) (A:Obj) (cs:Array Value) (t:TypeId) (i:Nat) {v:Value} (h:cs[i]?=some v):((w.alloc A).alloc (.cells cs t)).cell? ⟨w.heap.size+1,i,none⟩=some v:=by
 have:=zbf (w.alloc A) cs t i h
 rw[zcU] at this
 exact this
end
section
open Go.RowKit
theorem zjJ (k n d:Int) (s:ByteArray) (o:Option Addr) (len cap:Nat) (hn:-9223372036854775808≤n∧n≤9223372036854775807) (hd:-9223372036854775808≤d∧d≤9223372036854775807) (hs:s.size≤140737488351232) :
  ∃(k' n' d':Int) (s':ByteArray) (o':Option Addr) (len' cap':Nat) (b:Bool),(∀w,Calls prog 47 #[.agg #[.int .i64 k,.int .i64 n,.int .i64 d,.string s,.slice o len cap]] w fun e w'=>e=.returned (.tuple #[.agg #[.int .i64 k',.int .i64 n',.int .i64 d',.string s',.slice o' len' cap'],.bool b])∧Below w.heap.size w w') ∧
   Dat.head k n d s.data.toList len=(b&&(decide (n'=n)&&(decide (d'=d)&&(decide (s'=s)&&decide (len'=len))))):=by
 have hz:∀m:Int,decide (0=m)=decide (m=0):=fun m=>by rw[Bool.eq_iff_iff];simp only[decide_eq_true_eq];exact eq_comm
 have hzl:∀m:Nat,decide (0=m)=decide (m=0):=fun m=>by rw[Bool.eq_iff_iff];simp only[decide_eq_true_eq];exact eq_comm
 have he:decide ((⟨#[]⟩:ByteArray)=s)=s.data.toList.isEmpty:=by
  rw[Bool.eq_iff_iff]
  simp only[decide_eq_true_eq,List.isEmpty_iff]
  constructor
  ·rintro rfl;rfl
  ·intro h;apply ByteArray.ext;apply Array.ext';rw[h]
 by_cases k0:k=0
 ·subst k0
  exact ⟨_,_,_,_,_,_,_,_,fun w=>zl4 n d s o len cap hn.1 hn.2 hd.1 hd.2 w,by rw[Dat.head,if_pos rfl,he,hzl];simp⟩
 by_cases k1:k=1
 ·subst k1
  have hh:Dat.head 1 n d s.data.toList len=(decide (n=0∨n=1)&&(decide (n=n)&&(decide (0=d)&&(decide ((⟨#[]⟩:ByteArray)=s)&&decide (0=len))))):=by
   rw[Dat.head,if_neg (by omega),if_pos rfl,he,hzl,hz];simp only[decide_true,Bool.true_and];rw[←Bool.and_assoc,Bool.and_comm (decide (d=0)),Bool.and_assoc]
  by_cases n0:n=0
  ·exact ⟨_,_,_,_,_,_,_,_,fun w=>zlI n d s o len cap (by simp[n0]) w,by rw[hh,decide_eq_true (Or.inl n0)]⟩
  by_cases n1:n=1
  ·exact ⟨_,_,_,_,_,_,_,_,fun w=>zln n d s o len cap (by simp[n0]) (by simp[n1]) w,by rw[hh,decide_eq_true (Or.inr n1)]⟩
  ·exact ⟨_,_,_,_,_,_,_,_,fun w=>zlj n d s o len cap (by simp[n0]) (by simp[n1]) w,by rw[hh,decide_eq_false (by omega:¬(n=0∨n=1))]⟩
 have flip:∀a b c e:Bool,(a&&(b&&(c&&e)))=(c&&(b&&(a&&(true&&e)))):=by decide
 by_cases k2:k=2
 ·subst k2
  exact ⟨_,_,_,_,_,_,_,_,fun w=>zl0 n d s o len cap hs w,by rw[Dat.head,if_neg (by omega),if_neg (by omega),if_pos rfl,hz,hz,hzl,decide_eq_true (rfl:s=s)];exact flip _ _ _ _⟩
 by_cases k3:k=3
 ·subst k3
  exact ⟨_,_,_,_,_,_,_,_,fun w=>zmi n d s o len cap hs w,by rw[Dat.head,if_neg (by omega),if_neg (by omega),if_neg (by omega),if_pos rfl,hz,hz,hzl,decide_eq_true (rfl:s=s)];exact flip _ _ _ _⟩
 have flip2:∀a b c e:Bool,(a&&(b&&(c&&e)))=(true&&(b&&(a&&(c&&e)))):=by decide
 by_cases k4:k=4
 ·subst k4
  exact ⟨_,_,_,_,_,_,_,_,fun w=>zlZ n d s o len cap w,by rw[Dat.head,if_neg (by omega),if_neg (by omega),if_neg (by omega),if_neg (by omega),if_pos (by omega),hz,hz,hzl,he];exact flip2 _ _ _ _⟩
 by_cases k5:k=5
 ·subst k5
  exact ⟨_,_,_,_,_,_,_,_,fun w=>zl8 n d s o len cap w,by rw[Dat.head,if_neg (by omega),if_neg (by omega),if_neg (by omega),if_neg (by omega),if_pos (by omega),hz,hz,hzl,he];exact flip2 _ _ _ _⟩
 have flip3:∀a b c e:Bool,(a&&(b&&(c&&e)))=(e&&(b&&(a&&(c&&true)))):=by decide
 by_cases k6:k=6
 ·subst k6
  have hh:Dat.head 6 n d s.data.toList len=(decide (len=2)&&(decide (0=n)&&(decide (0=d)&&(decide ((⟨#[]⟩:ByteArray)=s)&&decide (len=len))))):=by
   rw[Dat.head,if_neg (by omega),if_neg (by omega),if_neg (by omega),if_neg (by omega),if_neg (by omega),if_pos rfl,hz,hz,he,decide_eq_true (rfl:len=len)];exact flip3 _ _ _ _
  by_cases l2:len=2
  ·subst l2
   exact ⟨_,_,_,_,_,_,_,_,fun w=>zlV n d s o cap w,by rw[hh];rfl⟩
  ·exact ⟨_,_,_,_,_,_,_,_,fun w=>zlh n d s o len cap (by simp;omega) w,by rw[hh,decide_eq_false l2]⟩
 have flip4:∀a b c:Bool,(a&&(b&&c))=(true&&(b&&(a&&(c&&true)))):=by decide
 by_cases k7:k=7
 ·subst k7
  exact ⟨_,_,_,_,_,_,_,_,fun w=>zmd n d s o len cap w,by rw[Dat.head,if_neg (by omega),if_neg (by omega),if_neg (by omega),if_neg (by omega),if_neg (by omega),if_neg (by omega),if_pos rfl,hz,hz,he,decide_eq_true (rfl:len=len)];exact flip4 _ _ _⟩
 ·exact ⟨_,_,_,_,_,_,_,_,fun w=>zlY k n d s o len cap (by omega) w,by rw[Dat.head,if_neg k0,if_neg k1,if_neg k2,if_neg k3,if_neg (by omega),if_neg k6,if_neg k7];rfl⟩
theorem zfM (l:List Dat) (deep:Nat):Dat.rightL l deep = !(l.any fun x=>!Dat.right x deep):=by
 induction l with
 | nil=>rfl
 | cons x l ih=>rw[Dat.rightL,ih,List.any_cons];cases Dat.right x deep<;>simp
theorem zeM (_x:Dat) (v:Value) (deep c pb:Nat) (w:World) (r:Bool) (hfn:w.cell? ⟨c,0,none⟩=some (.func (.func 46) #[] #[.pointer (some ⟨c,0,none⟩)])) (hpb:w.cell? ⟨pb,0,none⟩=some (.int .i64 deep)) (hdeep:deep≤200) (hc:c<w.heap.size) (hp:pb<w.heap.size)
  (hv:∃(k n d:Int) (s:ByteArray) (o:Option Addr) (len cap:Nat),v=.agg #[.int .i64 k,.int .i64 n,.int .i64 d,.string s,.slice o len cap])
  (H:∀w',Below w.heap.size w w'→Calls prog 46 #[v,.int .i64 (deep+1:Nat),.pointer (some ⟨c,0,none⟩)] w' fun e w''=>e=.returned (.bool r)∧Below w'.heap.size w' w'') :
  Calls prog 48 #[v,.pointer (some ⟨c,0,none⟩),.pointer (some ⟨pb,0,none⟩)] w fun e w'=>e=.returned (.bool !r)∧Below w.heap.size w w':=by
 obtain ⟨k,n,d,s,o,len,cap,rfl⟩:=hv
 have HW:∀X,Below w.heap.size w (w.alloc X):=fun X=>(Below.refl _ _).alloc (Nat.le_refl _) _
 have HWH:=zh HW
 have HH:=zh H
 have hcn:¬c=w.heap.size:=by omega
 have hpn:¬pb=w.heap.size:=by omega
 clear HW H
 go_enter func48,ntmps48
 go_wp2_with (first | (go_at_call 46;refine (HH.out _ (HWH.out _)).mono ?_;rintro e' w1 ⟨rfl,hb⟩))
 go_ret
 exact ⟨rfl,(HWH.out _).trans (hb.mono (by simp))⟩
end
section
open Go.RowKit
theorem zeF (l:List Dat) (deep c pb B:Nat) (sl:Value) (W:World) (r:Bool) (hr:Dat.rightL l (deep+1)=r) (hv:RepS W B l sl) (hB:B≤W.heap.size) (hc:c<W.heap.size) (hp:pb<W.heap.size) (hfn:W.cell? ⟨c,0,none⟩=some (.func (.func 46) #[] #[.pointer (some ⟨c,0,none⟩)])) (hpb:W.cell? ⟨pb,0,none⟩=some (.int .i64 deep)) (hdeep:deep≤200)
  (IH:∀x∈l,∀(v:Value) (deep c:Nat) (di:Int) (B:Nat) (w:World),di=deep→RepD w B x v→B≤w.heap.size→c<w.heap.size→w.cell? ⟨c,0,none⟩=some (.func (.func 46) #[] #[.pointer (some ⟨c,0,none⟩)])→deep≤201 →
   Calls prog 46 #[v,.int .i64 di,.pointer (some ⟨c,0,none⟩)] w fun e w'=>e=.returned (.bool (Dat.right x deep))∧Below w.heap.size w w') :
  Calls prog 22 #[sl,.func (.func 48) #[] #[.pointer (some ⟨c,0,none⟩),.pointer (some ⟨pb,0,none⟩)]] W fun e w'=>e=.returned (.bool !r)∧Below W.heap.size W w':=by
 refine zbi 48 #[.pointer (some ⟨c,0,none⟩),.pointer (some ⟨pb,0,none⟩)] (fun x=>!Dat.right x (deep+1)) (!r) l sl B W hv hB (fun _ _=>by kernel_rfl) ?_ (by rw[←hr,zfM,Bool.not_not])
 intro x hx v w' hxv hb
 have hs:=hb.size
 refine zeM x v deep c pb w' (Dat.right x (deep+1)) ((hb.cell (p:=⟨c,0,none⟩) hc).trans hfn) ((hb.cell (p:=⟨pb,0,none⟩) hp).trans hpb) hdeep (by omega) (by omega) (zhV hxv) ?_
 intro w'' hb2
 have hs2:=hb2.size
 exact IH x hx v (deep+1) c _ B w'' rfl (hxv.kept (hb2.mono (by omega))) (by omega) (by omega) ((hb2.cell (p:=⟨c,0,none⟩) (by show c<_;omega)).trans ((hb.cell (p:=⟨c,0,none⟩) hc).trans hfn)) (by omega)
theorem zkB {deep:Nat} {n n' d d':Int} {s s':ByteArray} {len len':Nat} {b q r:Bool} (h:(decide (deep≤200)&&((b&&(decide (n'=n)&&(decide (d'=d)&&(decide (s'=s)&&decide (len'=len)))))&&q))=r)
  (hno:¬b=true∨200<(deep:Int)∨¬n'=n∨¬d'=d∨¬s'.toList=s.toList∨((len':Int) != (len:Int))=true):false=r:=by
 rw[←h]
 by_cases h1:deep≤200∧b=true∧n'=n∧d'=d∧s'=s∧len'=len
 ·obtain ⟨a,rfl,rfl,rfl,rfl,rfl⟩:=h1
  rcases hno with h | h | h | h | h | h
  ·exact absurd rfl h
  ·omega
  ·exact absurd rfl h
  ·exact absurd rfl h
  ·exact absurd rfl h
  ·simp at h
 ·symm
  rw[Bool.and_eq_false_iff]
  apply Decidable.byContradiction
  intro h2
  apply h1
  simp only[not_or,Bool.not_eq_false,Bool.and_eq_true,decide_eq_true_eq] at h2
  obtain ⟨a,⟨b,c,d,e,f⟩,_⟩:=h2
  exact ⟨a,b,c,d,e,f⟩
theorem zhd {deep:Nat} {n n' d d':Int} {s s':ByteArray} {len len':Nat} {b q r:Bool} (h:(decide (deep≤200)&&((b&&(decide (n'=n)&&(decide (d'=d)&&(decide (s'=s)&&decide (len'=len)))))&&q))=r)
  (h0:b=true) (h1:(deep:Int)≤200) (h2:n'=n) (h3:d'=d) (h4:s'.toList=s.toList) (h5:((len':Int) != (len:Int))=false):q=r:=by
 have e:s'=s:=by
  apply ByteArray.ext;apply Array.ext'
  rw[←ByteArray.toList_eq,←ByteArray.toList_eq];exact h4
 have e2:len'=len:=by have:=h5;simp at this;omega
 rw[←h,decide_eq_true (by omega:deep≤200),h0,decide_eq_true h2,decide_eq_true h3,decide_eq_true e,decide_eq_true e2];rfl
theorem zfJ:∀(x:Dat) (v:Value) (deep c:Nat) (di:Int) (B:Nat) (w:World),di=deep→RepD w B x v→B≤w.heap.size→c<w.heap.size→w.cell? ⟨c,0,none⟩=some (.func (.func 46) #[] #[.pointer (some ⟨c,0,none⟩)])→deep≤201 →
    Calls prog 46 #[v,.int .i64 di,.pointer (some ⟨c,0,none⟩)] w fun e w'=>e=.returned (.bool (Dat.right x deep))∧Below w.heap.size w w':=by
  intro x
  induction x using Dat.ind with
  | h k n d s l ih=>
    intro v deep c di B w hdi hv hB hc hfn hdeep
    subst hdi
    obtain ⟨sl,rfl,bk,bn,bd,bs,o,len,cap,rfl,hlen,hcap,hmax,hc0⟩:=hv.open
    obtain ⟨k',n',d',s',o',len',cap',b,hbare,hhead⟩:=zjJ k n d s o len cap bn bd bs
    obtain ⟨r,hr⟩:∃r,Dat.right (.mk k n d s l) deep=r:=⟨_,rfl⟩
    rw[hr]
    rw[Dat.right,←hlen,hhead] at hr
    have IH:=zh ih
    have HV:=zh hc0
    have HL:=zh hlen
    have HB:=zh hbare
    have HR:=zh hr
    clear ih hv hc0 hlen hbare hhead hr
    have hcn:¬c=w.heap.size:=by omega
    go_enter func46,ntmps46
    go_wp2_with (first | (go_at_call 47;refine (HB.out _).mono ?_;rintro e' w1 ⟨rfl,hb⟩;have hz:=ziF hb;have z0:w.heap.size<w1.heap.size:=(by omega);have z1:w.heap.size+1<w1.heap.size:=(by omega);have z2:c<w1.heap.size:=(by omega);obtain ⟨q0,q1,q2,q3,q4⟩:=zjz hb;have q5:=zkA hb;have q6:=((zc5 hb).cell (p:=⟨c,0,none⟩) hc).trans hfn;have HB1:=zh hb;clear hb))
    all_goals try
      (go_ret
       refine ⟨zah (zkB HR.out ?_),(zc5 HB1.out).alloc (by omega) _⟩
       first
       | exact .inl ‹_›
       | exact .inr (.inr (.inr (.inr (.inl ‹_›))))
       | exact .inr (.inr (.inr (.inl ‹_›)))
       | exact .inr (.inr (.inl ‹_›))
       | exact .inr (.inl ‹_›)
       | (rcases ‹200<(deep:Int)∨_› with h | h
          · exact .inr (.inl h)
          · exact .inr (.inr (.inr (.inr (.inr h))))))
    have HQ:=zh (zhd HR.out (by assumption) (by assumption) (by assumption) (by assumption) (by assumption) (‹_∧((len':Int) != (len:Int))=false›).2)
    have hd0:deep≤200:=by have:=‹(deep:Int)≤200›;omega
    have HS:RepS w B l (.slice o len cap):=⟨o,len,cap,rfl,HL.out,hcap,hmax,HV.out⟩
    have HS1:=zh HS
    clear HS
    have HK:=zh (zc5 HB1.out)
    refine (zeF l deep c (w.heap.size+1) B _ _ r HQ.out (HS1.out.kept ((HK.out.alloc (by omega) _).mono hB)) ?_ ?_ ?_ ?_ ?_ hd0 IH.out).mono ?_
    · simp;omega
    · simp;omega
    · simp;omega
    · rw[World.cell?_alloc_past _ _ _ z2];exact q6
    · rw[World.cell?_alloc_past _ _ _ z1];exact q5
    rintro e2 w2 ⟨rfl,hb2⟩
    go_wp2
    go_ret
    exact ⟨by simp,(HK.out.alloc (by omega) _).trans (hb2.mono (by simp;omega))⟩
theorem zf8 (x:Dat) (v:Value) (B:Nat) (w:World) (hv:RepD w B x v) (hB:B≤w.heap.size) :
  Calls prog 24 #[v] w fun e w'=>e=.returned (.bool (Dat.right x 0))∧Below w.heap.size w w':=by
 obtain ⟨k,n,d,s,l⟩:=x
 obtain ⟨sl,rfl,_,_,_,_,o,len,cap,rfl,hx⟩:=hv.open
 clear hx
 have HV:=zh hv
 clear hv
 have HW:=zh (fun X Y=>((Below.refl w.heap.size w).alloc (Nat.le_refl _) X).alloc (by simp) Y)
 obtain ⟨y,hy⟩:∃y,Dat.right (.mk k n d s l) 0=y:=⟨_,rfl⟩
 rw[hy]
 have HY:=zh hy
 clear hy
 go_enter func24,ntmps24
 go_wp2_with fail
 refine (zfJ (.mk k n d s l) _ 0 (w.heap.size+1) 0 B _ rfl (HV.out.kept ((HW.out _ _).mono hB)) ?_ ?_ (zh0 _ _ _ _ 0 rfl) (by omega)).mono ?_
 ·simp;omega
 ·simp
 rw[HY.out]
 rintro e' w1 ⟨rfl,hb1⟩
 go_wp2
 go_ret
 exact ⟨rfl,(HW.out _ _).trans (hb1.mono (by simp;omega))⟩
end
section
open Go.RowKit
theorem zdP:∀i:Nat,i<31→Value.agg (tableA.extract (i*5) (i*5+5))=factV (Prims.facts i)
 | 0,_=>by kernel_rfl
 | 1,_=>by kernel_rfl
 | 2,_=>by kernel_rfl
 | 3,_=>by kernel_rfl
 | 4,_=>by kernel_rfl
 | 5,_=>by kernel_rfl
 | 6,_=>by kernel_rfl
 | 7,_=>by kernel_rfl
 | 8,_=>by kernel_rfl
 | 9,_=>by kernel_rfl
 | 10,_=>by kernel_rfl
 | 11,_=>by kernel_rfl
 | 12,_=>by kernel_rfl
 | 13,_=>by kernel_rfl
 | 14,_=>by kernel_rfl
 | 15,_=>by kernel_rfl
 | 16,_=>by kernel_rfl
 | 17,_=>by kernel_rfl
 | 18,_=>by kernel_rfl
 | 19,_=>by kernel_rfl
 | 20,_=>by kernel_rfl
 | 21,_=>by kernel_rfl
 | 22,_=>by kernel_rfl
 | 23,_=>by kernel_rfl
 | 24,_=>by kernel_rfl
 | 25,_=>by kernel_rfl
 | 26,_=>by kernel_rfl
 | 27,_=>by kernel_rfl
 | 28,_=>by kernel_rfl
 | 29,_=>by kernel_rfl
 | 30,_=>by kernel_rfl
 | i+31,h=>absurd h (by omega)
theorem zeI (i:Nat) (hi:i<31) (w:World):(Instr.index 128 (.agg tableA) (.int .i64 i)).run prog w=.ok (factV (Prims.facts i)) w:=by
 rw[←zdP i hi]
 have hn:(0:Int)≤i∧(i:Int)<(31:Nat):=by omega
 simp[Instr.index,run_underlying underlying128,asIntOf,hn,part,go_sem]
 intro h;omega
theorem zhN (n:Int) (h0:-9223372036854775808≤n) (h1:n≤9223372036854775807) (w:World) :
  Calls prog 55 #[.int .i64 n] w fun e w'=>e=.returned (.tuple #[factV (Prims.facts n),.bool (Prims.has n)])∧Below w.heap.size w w':=by
 by_cases hn:0≤n∧n≤30
 ·obtain ⟨i,rfl⟩:∃i:Nat,n=i:=⟨n.toNat,by omega⟩
  have hi:i<31:=by omega
  have hh:Prims.has (i:Int)=true:=by simp[Prims.has];omega
  rw[hh]
  obtain ⟨F,hF⟩:∃F,Prims.facts (i:Int)=F:=⟨_,rfl⟩
  rw[hF]
  have HF:=zh hF
  clear hF
  have hix:=fun W=>zeI i hi W
  rw[HF.out] at hix
  unfold factV factC at *
  obtain ⟨f0,f1,f2,f3,f4⟩:=F
  dsimp only at *
  go_enter func55,ntmps55
  go_wp2_with fail
  refine (ziz _).mono ?_
  rintro e' w1 ⟨rfl,hb1⟩
  have hbox:Box5 w1 w.heap.size 105 (.string ⟨#[]⟩) (.int .i64 0) (.int .i64 0) (.bool false) (.bool false):=(hb1.block _ (by simp)).trans (Box5.new w _ _ _ _ _ _)
  obtain ⟨q0,q1,q2,q3,q4⟩:=hbox.cells
  obtain ⟨z0,z1,z2,z3,z4⟩:=hbox.free
  have hlt:=hbox.lt
  have bN:=hbox.set (.string f0) (.int .i64 f1) (.int .i64 f2) (.bool f3) (.bool f4)
  obtain ⟨r0,r1,r2,r3,r4⟩:=bN.cells
  have HB:=zh ((zaY hb1).trans (zgD w1 w.heap.size w.heap.size (.string f0) (.int .i64 f1) (.int .i64 f2) (.bool f3) (.bool f4) (Nat.le_refl _)))
  clear hb1 hbox bN
  go_wp2_with fail
  exact bodyPost_ret (v:=.tuple #[.agg #[.string f0,.int .i64 f1,.int .i64 f2,.bool f3,.bool f4],.bool true]) (by simp[results,results55,go_sem,r0,r1,r2,r3,r4]) rfl ⟨rfl,HB.out⟩
 ·have hh:Prims.has n=false:=by simp[Prims.has];omega
  have hf:Prims.facts n=Prims.noFact:=by rw[Prims.facts,if_neg hn]
  rw[hh,hf]
  rcases (by omega:n<0∨0≤n) with hlt | hge
  ·go_enter func55,ntmps55
   go_wp2_with fail
   exact bodyPost_ret (v:=.tuple #[.agg #[.string ⟨#[]⟩,.int .i64 0,.int .i64 0,.bool false,.bool false],.bool false]) (by simp[results,results55,go_sem]) rfl ⟨rfl,(Below.refl _ _).alloc (Nat.le_refl _) _⟩
  ·have hge2:31≤n:=by omega
   go_enter func55,ntmps55
   go_wp2_with fail
   exact bodyPost_ret (v:=.tuple #[.agg #[.string ⟨#[]⟩,.int .i64 0,.int .i64 0,.bool false,.bool false],.bool false]) (by simp[results,results55,go_sem]) rfl ⟨rfl,(Below.refl _ _).alloc (Nat.le_refl _) _⟩
theorem zcx (n:Int) (f0:ByteArray) (f1 f2:Int) (f3 f4 b:Bool) (hf:Prims.facts n=⟨f0,f1,f2,f3,f4⟩) (hb:Prims.has n=b) (h0:-9223372036854775808≤n) (h1:n≤9223372036854775807) (w:World) :
  Calls prog 55 #[.int .i64 n] w fun e w'=>e=.returned (.tuple #[.agg #[.string f0,.int .i64 f1,.int .i64 f2,.bool f3,.bool f4],.bool b])∧Below w.heap.size w w':=by
 have:=zhN n h0 h1 w
 rw[hf,hb] at this
 exact this
end
section
open Go.RowKit Go.Shelf
attribute [local go_sem] Oper.semAt_some
end
section
open Go.RowKit
theorem zfZ:(prog.info? 41).map (fun i=>(i.zero,i.size,i.bytes))=some (some (.agg #[.int .i64 0,.int .i64 0,.int .i64 0,.string ⟨#[]⟩,.slice none 0 0]),5,64):=by kernel_rfl
def CellsD (w:World) (B:Nat):List Dat→List Value→Prop
 | [],xs=>xs=[]
 | x::l,xs=>∃c0 c1 c2 c3 c4 r,xs=c0::c1::c2::c3::c4::r∧RepD w B x (.agg #[c0,c1,c2,c3,c4])∧CellsD w B l r
theorem CellsD.length {w:World} {B:Nat}:∀{l:List Dat} {xs:List Value},CellsD w B l xs→xs.length=l.length*5
 | [],_,h=>by rw[CellsD] at h;rw[h];rfl
 | _::l,_,⟨_,_,_,_,_,r,he,_,hr⟩=>by rw[he];simp only[List.length_cons,hr.length];omega
theorem CellsD.mono {w w':World} {B B':Nat} (hk:∀x v,RepD w B x v→RepD w' B' x v):∀{l:List Dat} {xs:List Value},CellsD w B l xs→CellsD w' B' l xs
 | [],_,h=>h
 | _::_,_,⟨c0,c1,c2,c3,c4,r,he,hx,hr⟩=>⟨c0,c1,c2,c3,c4,r,he,hk _ _ hx,hr.mono hk⟩
theorem CellsD.repC {w:World} {B b:Nat}:∀{l:List Dat} {xs:List Value} {off:Nat},CellsD w B l xs→(∀j u,xs[j]?=some u→w.cell? ⟨b,off+j,none⟩=some u)→RepC w B l b off
 | [],_,_,_,_=>by rw[RepC];trivial
 | x::l,_,off,⟨c0,c1,c2,c3,c4,r,he,hx,hr⟩,hc=>by
  subst he
  rw[RepC]
  refine ⟨⟨c0,c1,c2,c3,c4,hc 0 _ rfl,hc 1 _ rfl,hc 2 _ rfl,hc 3 _ rfl,hc 4 _ rfl,hx⟩,hr.repC fun j u hj=>?_⟩
  have:=hc (j+5) u (by simpa using hj)
  rw[show off+5+j=off+(j+5) by omega];exact this
theorem zeG {w:World} {base B:Nat} {v:Value} {l:List Dat} {xs:List Value} (hown:w.ownsRow base 41 5 v l.length xs) (hc:CellsD w B l xs) (hB:B≤w.heap.size):RepS w w.heap.size l v:=by
 rcases hown.2 with ⟨hv,h0⟩ | ⟨g,cap,cur,hv,hb,hg,hle,hm,hsz,htk⟩
 ·have:l=[]:=List.eq_nil_of_length_eq_zero h0
  subst this
  exact ⟨none,0,0,hv,rfl,by omega,by omega,rfl,rfl⟩
 ·have hlt:=(Array.getElem?_eq_some_iff.1 hg).1
  refine ⟨some ⟨g,0,none⟩,l.length,cap,hv,rfl,hle,by unfold maxLen at hm;omega,fun _=>⟨rfl,hlt⟩,?_⟩
  refine (hc.mono (fun x v h=>h.wider hB)).repC fun j u hj=>?_
  rw[←htk] at hj
  rw[List.getElem?_take] at hj
  split at hj
  ·unfold World.cell?
   rw[hg,Nat.zero_add]
   simpa using hj
  ·cases hj
end
section
open Go.RowKit
theorem zd3 (b:UInt8) (h:Dat.nameByte b=true):Dat.strByte b=true:=by
 have h0:∀n,n<256→Dat.nameByte (UInt8.ofNat n)=true→Dat.strByte (UInt8.ofNat n)=true:=by decide +kernel
 have:=h0 b.toNat (UInt8.toNat_lt b)
 rw[UInt8.ofNat_toNat] at this
 exact this h
theorem ziZ {s:List UInt8} (h:Dat.name s=true):s.all Dat.strByte=true:=by
 unfold Dat.name at h
 simp only[Bool.and_eq_true] at h
 exact List.all_eq_true.2 fun b hb=>zd3 b (List.all_eq_true.1 h.2.2.1 b hb)
theorem zbe (k n d:Int) (s:List UInt8) (len:Nat):Dat.head k n d s len=true ↔
  (0≤k∧k≤7)∧(k=0→Num.right n d=true)∧(k≠0→d=0)∧(k=1→n=0∨n=1)∧(k≠0→k≠1→n=0)∧(k=2→Dat.name s=true)∧(k≠2→k≠3→s=[])∧s.all Dat.strByte=true∧(k=6→len=2)∧(k≠6→k≠7→len=0):=by
 unfold Dat.head
 by_cases k0:k=0
 ·subst k0
  simp only[if_true,Bool.and_eq_true,List.isEmpty_iff,decide_eq_true_eq]
  constructor
  ·rintro ⟨h1,h2,h3⟩
   subst h2
   exact ⟨by omega,fun _=>h1,fun h=>absurd rfl h,fun h=>by omega,fun h=>absurd rfl h,fun h=>by omega,fun _ _=>rfl,rfl,fun h=>by omega,fun _ _=>h3⟩
  ·rintro ⟨_,h1,_,_,_,_,h2,_,_,h3⟩
   exact ⟨h1 trivial,h2 (by omega) (by omega),h3 (by omega) (by omega)⟩
 rw[if_neg k0]
 by_cases k1:k=1
 ·subst k1
  simp only[if_true,Bool.and_eq_true,List.isEmpty_iff,decide_eq_true_eq]
  constructor
  ·rintro ⟨h1,h2,h3,h4⟩
   subst h3
   exact ⟨by omega,fun h=>by omega,fun _=>h1,fun _=>h2,fun _ h=>absurd rfl h,fun h=>by omega,fun _ _=>rfl,rfl,fun h=>by omega,fun _ _=>h4⟩
  ·rintro ⟨_,_,h1,h2,_,_,h3,_,_,h4⟩
   exact ⟨h1 k0,h2 trivial,h3 (by omega) (by omega),h4 (by omega) (by omega)⟩
 rw[if_neg k1]
 by_cases k2:k=2
 ·subst k2
  simp only[if_true,Bool.and_eq_true,decide_eq_true_eq]
  constructor
  ·rintro ⟨h1,h2,h3,h4⟩
   exact ⟨by omega,fun h=>by omega,fun _=>h1,fun h=>by omega,fun _ _=>h2,fun _=>h3,fun h=>absurd rfl h,ziZ h3,fun h=>by omega,fun _ _=>h4⟩
  ·rintro ⟨_,_,h1,_,h2,h3,_,_,_,h4⟩
   exact ⟨h1 k0,h2 k0 k1,h3 trivial,h4 (by omega) (by omega)⟩
 rw[if_neg k2]
 by_cases k3:k=3
 ·subst k3
  simp only[if_true,Bool.and_eq_true,decide_eq_true_eq]
  constructor
  ·rintro ⟨h1,h2,h3,h4⟩
   exact ⟨by omega,fun h=>by omega,fun _=>h1,fun h=>by omega,fun _ _=>h2,fun h=>by omega,fun _ h=>absurd rfl h,h3,fun h=>by omega,fun _ _=>h4⟩
  ·rintro ⟨_,_,h1,_,h2,_,_,h3,_,h4⟩
   exact ⟨h1 k0,h2 k0 k1,h3,h4 (by omega) (by omega)⟩
 rw[if_neg k3]
 by_cases k45:k=4∨k=5
 ·rw[if_pos k45]
  simp only[Bool.and_eq_true,List.isEmpty_iff,decide_eq_true_eq]
  constructor
  ·rintro ⟨h1,h2,h3,h4⟩
   subst h3
   exact ⟨by omega,fun h=>absurd h k0,fun _=>h1,fun h=>absurd h k1,fun _ _=>h2,fun h=>absurd h k2,fun _ _=>rfl,rfl,fun h=>by omega,fun _ _=>h4⟩
  ·rintro ⟨_,_,h1,_,h2,_,h3,_,_,h4⟩
   exact ⟨h1 k0,h2 k0 k1,h3 k2 k3,h4 (by omega) (by omega)⟩
 rw[if_neg k45]
 by_cases k6:k=6
 ·subst k6
  simp only[if_true,Bool.and_eq_true,List.isEmpty_iff,decide_eq_true_eq]
  constructor
  ·rintro ⟨h1,h2,h3,h4⟩
   subst h3
   exact ⟨by omega,fun h=>absurd h k0,fun _=>h1,fun h=>absurd h k1,fun _ _=>h2,fun h=>absurd h k2,fun _ _=>rfl,rfl,fun _=>h4,fun h=>absurd rfl h⟩
  ·rintro ⟨_,_,h1,_,h2,_,h3,_,h4,_⟩
   exact ⟨h1 k0,h2 k0 k1,h3 k2 k3,h4 trivial⟩
 rw[if_neg k6]
 by_cases k7:k=7
 ·subst k7
  simp only[if_true,Bool.and_eq_true,List.isEmpty_iff,decide_eq_true_eq]
  constructor
  ·rintro ⟨h1,h2,h3⟩
   subst h3
   exact ⟨by omega,fun h=>absurd h k0,fun _=>h1,fun h=>absurd h k1,fun _ _=>h2,fun h=>absurd h k2,fun _ _=>rfl,rfl,fun h=>by omega,fun _ h=>absurd rfl h⟩
  ·rintro ⟨_,_,h1,_,h2,_,h3,_,_,_⟩
   exact ⟨h1 k0,h2 k0 k1,h3 k2 k3⟩
 rw[if_neg k7]
 constructor
 ·intro h;cases h
 ·rintro ⟨h,_⟩;omega
end
end Go.Proofs.YtdcajmeeeoofgaaGreatDoor
