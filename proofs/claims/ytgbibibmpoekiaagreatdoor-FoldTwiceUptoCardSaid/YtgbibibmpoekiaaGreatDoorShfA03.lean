/-
  What the proofs lean on: Nums, Unt, PrimLaw.
-/
import Derived.Test.YtgbibibmpoekiaaGreatDoorProg
import Derived.WalkKit
import Derived.ProofKit
import Derived.BigQuiet
import Derived.Deep.QuietTactic
import Derived.Lib.Hide
import Derived.IntWalk
import Derived.Test.YtgbibibmpoekiaaGreatDoorShfA01
set_option maxRecDepth 100000
set_option maxHeartbeats 16000000
namespace Go.Proofs.YtgbibibmpoekiaaGreatDoor
section
open Go.RowKit
theorem ret_int {k:IntKind} {a b:Int} (h:a=b):Ending.returned (.int k a)=.returned (.int k b):=by rw[h]
theorem ret_bool {a b:Bool} (h:a=b):Ending.returned (.bool a)=.returned (.bool b):=by rw[h]
theorem ret_3p {a b c:Int} {p:Int × Int × Int} (h:p=(a,b,c)):Ending.returned (.tuple #[.int .i64 a,.int .i64 b,.int .i64 c])=.returned (.tuple #[.int .i64 p.1,.int .i64 p.2.1,.int .i64 p.2.2]):=by
 rw[h]
theorem wrap_neg_u64 (n:Int) (h0:-9223372036854775808≤n) (h:n<0):IntKind.u64.wrap (-IntKind.u64.wrap n)=n.natAbs:=by
 simp[IntKind.wrap,IntKind.bits,IntKind.signed]
 omega
theorem amount_any (n:Int) (h0:-9223372036854775808≤n) (h1:n≤9223372036854775807) (w:World) :
  Calls Tryz.prog 134 #[.int .i64 n] w fun e w'=>e=.returned (.int .u64 n.natAbs)∧w=w':=by
 by_cases h:n<0
 ·go_enter Tryz.func134,Tryz.ntmps134
  go_wp2
  go_ret
  exact ⟨ret_int (wrap_neg_u64 n h0 h),rfl⟩
 ·go_enter Tryz.func134,Tryz.ntmps134
  go_wp2
  go_ret
  exact ⟨ret_int (by omega),rfl⟩
theorem common_nat (a b:Nat) (ha:a≤9223372036854775808) (hb:b≤9223372036854775808) (w:World) :
  Calls Tryz.prog 133 #[.int .u64 a,.int .u64 b] w fun e w'=>e=.returned (.int .u64 (Nat.gcd a b:Nat))∧∃n,w'=w.drewN n:=by
 go_enter Tryz.func133,Tryz.ntmps133
 go_wp2
 go_step3
 go_wp2
 go_step3
 go_wp2
 go_loopw [0,1] (fun x y wr=>∃p q:Nat,x=.int .u64 p∧y=.int .u64 q∧p≤9223372036854775808∧q≤9223372036854775808∧Nat.gcd p q=Nat.gcd a b∧∃n,wr=w.drewN n) (fun _ y _=>(intOf y).toNat)
 case atStart=>exact ⟨a,b,rfl,rfl,ha,hb,rfl,0,rfl⟩
 case round=>
  obtain ⟨p,q,rfl,rfl,hp,hq,hg,n,rfl⟩:=hrel
  have H:=Lib.hid hg
  clear hg
  by_cases hz:q=0
  ·subst hz
   go_wp2
   rw[Exit.noGoto_ret]
   go_ret
   exact ⟨ret_int (by rw[←H.out];simp),n,rfl⟩
  ·have hz1:((q:Int)==0)=false:=by simpa using hz
   have hlt:p % q<q:=Nat.mod_lt _ (by omega)
   have hE:=Lib.hid (show Nat.gcd q (p % q)=Nat.gcd a b by rw[Nat.gcd_comm,←Nat.gcd_rec,Nat.gcd_comm];exact H.out)
   go_wp2
   go_quiet (fail)
   go_wp2
   go_roundw
   case rel=>exact ⟨q,p % q,rfl,by go_num,hq,by omega,hE.out,_,World.drewN_drewN _ _ _⟩
   case measure=>simp[intOf];omega
theorem common_int (a b:Int) (a0:0≤a) (ha:a≤9223372036854775808) (b0:0≤b) (hb:b≤9223372036854775808) (w:World) :
  Calls Tryz.prog 133 #[.int .u64 a,.int .u64 b] w fun e w'=>e=.returned (.int .u64 (Int.gcd a b))∧∃n,w'=w.drewN n:=by
 obtain ⟨p,rfl⟩:=Int.eq_ofNat_of_zero_le a0
 obtain ⟨q,rfl⟩:=Int.eq_ofNat_of_zero_le b0
 exact common_nat p q (by omega) (by omega) w
theorem gcd_natAbs (n d:Int):Int.gcd (n.natAbs:Int) d=Int.gcd n d:=by simp[Int.gcd]
theorem right_any (n d:Int) (h0:-9223372036854775808≤n) (h1:n≤9223372036854775807) (h2:-9223372036854775808≤d) (h3:d≤9223372036854775807) (w:World) :
  Calls Tryz.prog 108 #[.int .i64 n,.int .i64 d] w fun e w'=>e=.returned (.bool (Num.right n d))∧∃k,w'=w.drewN k:=by
 go_enter Tryz.func108,Tryz.ntmps108
 go_wp2_with (first | (go_at_call 134;refine (amount_any _ (by omega) (by omega) _).mono ?_;rintro e w' ⟨rfl,rfl⟩) | (go_at_call 133;refine (common_int _ _ (by omega) (by omega) (by omega) (by omega) _).mono ?_;rintro e w' ⟨rfl,k,rfl⟩))
 all_goals go_ret
 ·exact ⟨ret_bool (by rw[gcd_natAbs];simp[Num.right, *];rw[Bool.eq_iff_iff];simp;omega),_,rfl⟩
 all_goals exact ⟨ret_bool (by simp[Num.right];omega),0,rfl⟩
end
section
open Go.RowKit
theorem common_to (n d:Int) (G:Nat) (hG:Int.gcd n d=G) (h0:n.natAbs≤9223372036854775808) (h2:d.natAbs≤9223372036854775808) (w:World) :
  Calls Tryz.prog 133 #[.int .u64 n.natAbs,.int .u64 d.natAbs] w fun e w'=>e=.returned (.int .u64 G)∧∃n,w'=w.drewN n:=by
 refine (common_int _ _ (by omega) (by omega) (by omega) (by omega) w).mono ?_
 rintro e w' ⟨rfl,k⟩
 exact ⟨by rw[←hG];simp[Int.gcd],k⟩
theorem make_any (n d:Int) (h0:-9223372036854775808≤n) (h1:n≤9223372036854775807) (h2:-9223372036854775808≤d) (h3:d≤9223372036854775807) (w:World) :
  Calls Tryz.prog 164 #[.int .i64 n,.int .i64 d] w fun e w'=>e=.returned (.tuple #[.int .i64 (Num.mk n d).1,.int .i64 (Num.mk n d).2.1,.int .i64 (Num.mk n d).2.2])∧∃k,w'=w.drewN k:=by
 by_cases hd:d=0
 ·subst hd
  go_enter Tryz.func164,Tryz.ntmps164
  go_wp2
  go_ret3
  exact ⟨ret_3p rfl,0,rfl⟩
 ·have hg:=Num.gcd_ne (n:=n) hd
  have hd0:(d==0)=false:=by simpa using hd
  obtain ⟨G,hG⟩:∃G,Int.gcd n d=G:=⟨_,rfl⟩
  obtain ⟨A,hA⟩:∃A,n.natAbs / G=A:=⟨_,rfl⟩
  obtain ⟨B,hB⟩:∃B,d.natAbs / G=B:=⟨_,rfl⟩
  rw[hG] at hg
  have HK:Hid (Num.mk n d=if 2147483647<A∨2147483647<B then (0,0,3) else if n<0↔d<0 then ((A:Int),(B:Int),0) else (-(A:Int),(B:Int),0)):=Lib.hid (by simp only[Num.mk,hd,if_false,hG,hA,hB])
  have b1:A≤n.natAbs:=by rw[←hA];exact Nat.div_le_self _ _
  have b2:B≤d.natAbs:=by rw[←hB];exact Nat.div_le_self _ _
  have q1:((n.natAbs:Int) / (G:Int))=A:=by rw[←hA];rfl
  have q2:((d.natAbs:Int) / (G:Int))=B:=by rw[←hB];rfl
  have HG:=Lib.hid hG
  clear hG hA hB
  have hg0:((G:Int)==0)=false:=by simpa using hg
  cases hn:decide (n<0)<;>cases hm:decide (d<0)
  all_goals
   have hn2:=hn
   have hm2:=hm
   simp only[decide_eq_true_eq,decide_eq_false_iff_not,Int.not_lt] at hn2 hm2
   go_enter Tryz.func164,Tryz.ntmps164
   go_wp2_with (first | (go_at_call 134;refine (amount_any _ (by omega) (by omega) _).mono ?_;rintro e w' ⟨rfl,rfl⟩) | (go_at_call 133;refine (common_to _ _ G HG.out (by omega) (by omega) _).mono ?_;rintro e w' ⟨rfl,k,rfl⟩))
   go_quiet (fail)
   go_wp2
   all_goals
    go_ret3
    refine ⟨ret_3p (HK.out.trans ?_),by first | exact ⟨0,rfl⟩ | exact ⟨_,rfl⟩⟩
    first
     | (rw[if_pos (by omega)])
     | (rw[if_neg (by omega),if_pos (by omega)])
     | (rw[if_neg (by omega),if_neg (by omega)])
end
section
open Go.RowKit
theorem both_any (n d m e:Int) (h0:-9223372036854775808≤n) (h1:n≤9223372036854775807) (h2:-9223372036854775808≤d) (h3:d≤9223372036854775807) (h4:-9223372036854775808≤m) (h5:m≤9223372036854775807) (h6:-9223372036854775808≤e) (h7:e≤9223372036854775807) (w:World) :
  Calls Tryz.prog 143 #[.int .i64 n,.int .i64 d,.int .i64 m,.int .i64 e] w fun e' w'=>e'=.returned (.bool (Num.right n d&&Num.right m e))∧∃k,w'=w.drewN k:=by
 cases hr:Num.right n d
 all_goals
  go_enter Tryz.func143,Tryz.ntmps143
  go_wp2_with (first | (go_at_call 108;refine (right_any _ _ (by omega) (by omega) (by omega) (by omega) _).mono ?_;rintro e' w' ⟨rfl,nk,rfl⟩))
  go_ret
  exact ⟨ret_bool (by simp),by first | exact ⟨0,rfl⟩ | exact ⟨_,rfl⟩ | (simp only[World.drewN_drewN];exact ⟨_,rfl⟩)⟩
theorem add_any (n d m e:Int) (h0:-9223372036854775808≤n) (h1:n≤9223372036854775807) (h2:-9223372036854775808≤d) (h3:d≤9223372036854775807) (h4:-9223372036854775808≤m) (h5:m≤9223372036854775807) (h6:-9223372036854775808≤e) (h7:e≤9223372036854775807) (w:World) :
  Calls Tryz.prog 167 #[.int .i64 n,.int .i64 d,.int .i64 m,.int .i64 e] w fun e' w'=>e'=.returned (.tuple #[.int .i64 (Num.add n d m e).1,.int .i64 (Num.add n d m e).2.1,.int .i64 (Num.add n d m e).2.2])∧∃k,w'=w.drewN k:=by
 cases hr:(Num.right n d&&Num.right m e)
 ·have HK:=Lib.hid (show Num.add n d m e=(0,0,3) by simp[Num.add,hr])
  go_enter Tryz.func167,Tryz.ntmps167
  go_wp2_with (first | (go_at_call 143;refine (both_any _ _ _ _ (by omega) (by omega) (by omega) (by omega) (by omega) (by omega) (by omega) (by omega) _).mono ?_;rintro e' w' ⟨rfl,nk,rfl⟩))
  go_ret3
  exact ⟨ret_3p HK.out,by first | exact ⟨0,rfl⟩ | exact ⟨_,rfl⟩ | (simp only[World.drewN_drewN];exact ⟨_,rfl⟩)⟩
 ·have hb:=hr
  rw[Bool.and_eq_true,Num.right_iff,Num.right_iff] at hb
  obtain ⟨⟨d1,d2,n1,n2,_⟩,e1,e2,m1,m2,_⟩:=hb
  have p1:=Num.mul_bd (a:=n) (b:=e) (by omega) (by omega) (by omega) (by omega)
  have p2:=Num.mul_bd (a:=m) (b:=d) (by omega) (by omega) (by omega) (by omega)
  have p3:=Num.mul_bd (a:=d) (b:=e) (by omega) (by omega) (by omega) (by omega)
  have p4:=Num.mul_bd (a:=n) (b:=m) (by omega) (by omega) (by omega) (by omega)
  have p5:=Num.mul_bd (a:=d) (b:=m) (by omega) (by omega) (by omega) (by omega)
  have HK:=Lib.hid (show Num.add n d m e=Num.mk (n*e+m*d) (d*e) by simp[Num.add,hr])
  go_enter Tryz.func167,Tryz.ntmps167
  go_wp2_with (first | (go_at_call 143;refine (both_any _ _ _ _ (by omega) (by omega) (by omega) (by omega) (by omega) (by omega) (by omega) (by omega) _).mono ?_;rintro e' w' ⟨rfl,nk,rfl⟩) | (go_at_call 164;refine (make_any _ _ (by omega) (by omega) (by omega) (by omega) _).mono ?_;rintro e' w' ⟨rfl,nk,rfl⟩))
  go_ret3
  exact ⟨ret_3p HK.out,by first | exact ⟨0,rfl⟩ | exact ⟨_,rfl⟩ | (simp only[World.drewN_drewN];exact ⟨_,rfl⟩)⟩
theorem sub_any (n d m e:Int) (h0:-9223372036854775808≤n) (h1:n≤9223372036854775807) (h2:-9223372036854775808≤d) (h3:d≤9223372036854775807) (h4:-9223372036854775808≤m) (h5:m≤9223372036854775807) (h6:-9223372036854775808≤e) (h7:e≤9223372036854775807) (w:World) :
  Calls Tryz.prog 168 #[.int .i64 n,.int .i64 d,.int .i64 m,.int .i64 e] w fun e' w'=>e'=.returned (.tuple #[.int .i64 (Num.sub n d m e).1,.int .i64 (Num.sub n d m e).2.1,.int .i64 (Num.sub n d m e).2.2])∧∃k,w'=w.drewN k:=by
 cases hr:(Num.right n d&&Num.right m e)
 ·have HK:=Lib.hid (show Num.sub n d m e=(0,0,3) by simp[Num.sub,hr])
  go_enter Tryz.func168,Tryz.ntmps168
  go_wp2_with (first | (go_at_call 143;refine (both_any _ _ _ _ (by omega) (by omega) (by omega) (by omega) (by omega) (by omega) (by omega) (by omega) _).mono ?_;rintro e' w' ⟨rfl,nk,rfl⟩))
  go_ret3
  exact ⟨ret_3p HK.out,by first | exact ⟨0,rfl⟩ | exact ⟨_,rfl⟩ | (simp only[World.drewN_drewN];exact ⟨_,rfl⟩)⟩
 ·have hb:=hr
  rw[Bool.and_eq_true,Num.right_iff,Num.right_iff] at hb
  obtain ⟨⟨d1,d2,n1,n2,_⟩,e1,e2,m1,m2,_⟩:=hb
  have p1:=Num.mul_bd (a:=n) (b:=e) (by omega) (by omega) (by omega) (by omega)
  have p2:=Num.mul_bd (a:=m) (b:=d) (by omega) (by omega) (by omega) (by omega)
  have p3:=Num.mul_bd (a:=d) (b:=e) (by omega) (by omega) (by omega) (by omega)
  have p4:=Num.mul_bd (a:=n) (b:=m) (by omega) (by omega) (by omega) (by omega)
  have p5:=Num.mul_bd (a:=d) (b:=m) (by omega) (by omega) (by omega) (by omega)
  have HK:=Lib.hid (show Num.sub n d m e=Num.mk (n*e-m*d) (d*e) by simp[Num.sub,hr])
  go_enter Tryz.func168,Tryz.ntmps168
  go_wp2_with (first | (go_at_call 143;refine (both_any _ _ _ _ (by omega) (by omega) (by omega) (by omega) (by omega) (by omega) (by omega) (by omega) _).mono ?_;rintro e' w' ⟨rfl,nk,rfl⟩) | (go_at_call 164;refine (make_any _ _ (by omega) (by omega) (by omega) (by omega) _).mono ?_;rintro e' w' ⟨rfl,nk,rfl⟩))
  go_ret3
  exact ⟨ret_3p HK.out,by first | exact ⟨0,rfl⟩ | exact ⟨_,rfl⟩ | (simp only[World.drewN_drewN];exact ⟨_,rfl⟩)⟩
theorem mul_any (n d m e:Int) (h0:-9223372036854775808≤n) (h1:n≤9223372036854775807) (h2:-9223372036854775808≤d) (h3:d≤9223372036854775807) (h4:-9223372036854775808≤m) (h5:m≤9223372036854775807) (h6:-9223372036854775808≤e) (h7:e≤9223372036854775807) (w:World) :
  Calls Tryz.prog 169 #[.int .i64 n,.int .i64 d,.int .i64 m,.int .i64 e] w fun e' w'=>e'=.returned (.tuple #[.int .i64 (Num.mul n d m e).1,.int .i64 (Num.mul n d m e).2.1,.int .i64 (Num.mul n d m e).2.2])∧∃k,w'=w.drewN k:=by
 cases hr:(Num.right n d&&Num.right m e)
 ·have HK:=Lib.hid (show Num.mul n d m e=(0,0,3) by simp[Num.mul,hr])
  go_enter Tryz.func169,Tryz.ntmps169
  go_wp2_with (first | (go_at_call 143;refine (both_any _ _ _ _ (by omega) (by omega) (by omega) (by omega) (by omega) (by omega) (by omega) (by omega) _).mono ?_;rintro e' w' ⟨rfl,nk,rfl⟩))
  go_ret3
  exact ⟨ret_3p HK.out,by first | exact ⟨0,rfl⟩ | exact ⟨_,rfl⟩ | (simp only[World.drewN_drewN];exact ⟨_,rfl⟩)⟩
 ·have hb:=hr
  rw[Bool.and_eq_true,Num.right_iff,Num.right_iff] at hb
  obtain ⟨⟨d1,d2,n1,n2,_⟩,e1,e2,m1,m2,_⟩:=hb
  have p1:=Num.mul_bd (a:=n) (b:=e) (by omega) (by omega) (by omega) (by omega)
  have p2:=Num.mul_bd (a:=m) (b:=d) (by omega) (by omega) (by omega) (by omega)
  have p3:=Num.mul_bd (a:=d) (b:=e) (by omega) (by omega) (by omega) (by omega)
  have p4:=Num.mul_bd (a:=n) (b:=m) (by omega) (by omega) (by omega) (by omega)
  have p5:=Num.mul_bd (a:=d) (b:=m) (by omega) (by omega) (by omega) (by omega)
  have HK:=Lib.hid (show Num.mul n d m e=Num.mk (n*m) (d*e) by simp[Num.mul,hr])
  go_enter Tryz.func169,Tryz.ntmps169
  go_wp2_with (first | (go_at_call 143;refine (both_any _ _ _ _ (by omega) (by omega) (by omega) (by omega) (by omega) (by omega) (by omega) (by omega) _).mono ?_;rintro e' w' ⟨rfl,nk,rfl⟩) | (go_at_call 164;refine (make_any _ _ (by omega) (by omega) (by omega) (by omega) _).mono ?_;rintro e' w' ⟨rfl,nk,rfl⟩))
  go_ret3
  exact ⟨ret_3p HK.out,by first | exact ⟨0,rfl⟩ | exact ⟨_,rfl⟩ | (simp only[World.drewN_drewN];exact ⟨_,rfl⟩)⟩
theorem div_any (n d m e:Int) (h0:-9223372036854775808≤n) (h1:n≤9223372036854775807) (h2:-9223372036854775808≤d) (h3:d≤9223372036854775807) (h4:-9223372036854775808≤m) (h5:m≤9223372036854775807) (h6:-9223372036854775808≤e) (h7:e≤9223372036854775807) (w:World) :
  Calls Tryz.prog 170 #[.int .i64 n,.int .i64 d,.int .i64 m,.int .i64 e] w fun e' w'=>e'=.returned (.tuple #[.int .i64 (Num.div n d m e).1,.int .i64 (Num.div n d m e).2.1,.int .i64 (Num.div n d m e).2.2])∧∃k,w'=w.drewN k:=by
 cases hr:(Num.right n d&&Num.right m e)
 ·have HK:=Lib.hid (show Num.div n d m e=(0,0,3) by simp[Num.div,hr])
  go_enter Tryz.func170,Tryz.ntmps170
  go_wp2_with (first | (go_at_call 143;refine (both_any _ _ _ _ (by omega) (by omega) (by omega) (by omega) (by omega) (by omega) (by omega) (by omega) _).mono ?_;rintro e' w' ⟨rfl,nk,rfl⟩))
  go_ret3
  exact ⟨ret_3p HK.out,by first | exact ⟨0,rfl⟩ | exact ⟨_,rfl⟩ | (simp only[World.drewN_drewN];exact ⟨_,rfl⟩)⟩
 ·have hb:=hr
  rw[Bool.and_eq_true,Num.right_iff,Num.right_iff] at hb
  obtain ⟨⟨d1,d2,n1,n2,_⟩,e1,e2,m1,m2,_⟩:=hb
  have p1:=Num.mul_bd (a:=n) (b:=e) (by omega) (by omega) (by omega) (by omega)
  have p2:=Num.mul_bd (a:=m) (b:=d) (by omega) (by omega) (by omega) (by omega)
  have p3:=Num.mul_bd (a:=d) (b:=e) (by omega) (by omega) (by omega) (by omega)
  have p4:=Num.mul_bd (a:=n) (b:=m) (by omega) (by omega) (by omega) (by omega)
  have p5:=Num.mul_bd (a:=d) (b:=m) (by omega) (by omega) (by omega) (by omega)
  have HK:=Lib.hid (show Num.div n d m e=Num.mk (n*e) (d*m) by simp[Num.div,hr])
  go_enter Tryz.func170,Tryz.ntmps170
  go_wp2_with (first | (go_at_call 143;refine (both_any _ _ _ _ (by omega) (by omega) (by omega) (by omega) (by omega) (by omega) (by omega) (by omega) _).mono ?_;rintro e' w' ⟨rfl,nk,rfl⟩) | (go_at_call 164;refine (make_any _ _ (by omega) (by omega) (by omega) (by omega) _).mono ?_;rintro e' w' ⟨rfl,nk,rfl⟩))
  go_ret3
  exact ⟨ret_3p HK.out,by first | exact ⟨0,rfl⟩ | exact ⟨_,rfl⟩ | (simp only[World.drewN_drewN];exact ⟨_,rfl⟩)⟩
theorem less_any (n d m e:Int) (h0:-9223372036854775808≤n) (h1:n≤9223372036854775807) (h2:-9223372036854775808≤d) (h3:d≤9223372036854775807) (h4:-9223372036854775808≤m) (h5:m≤9223372036854775807) (h6:-9223372036854775808≤e) (h7:e≤9223372036854775807) (w:World) :
  Calls Tryz.prog 117 #[.int .i64 n,.int .i64 d,.int .i64 m,.int .i64 e] w fun e' w'=>e'=.returned (.bool (Num.less n d m e))∧∃k,w'=w.drewN k:=by
 cases hr:(Num.right n d&&Num.right m e)
 ·have HK:=Lib.hid (show Num.less n d m e=false by simp only[Num.less,hr,Bool.false_and])
  go_enter Tryz.func117,Tryz.ntmps117
  go_wp2_with (first | (go_at_call 143;refine (both_any _ _ _ _ (by omega) (by omega) (by omega) (by omega) (by omega) (by omega) (by omega) (by omega) _).mono ?_;rintro e' w' ⟨rfl,nk,rfl⟩))
  go_ret
  exact ⟨ret_bool HK.out.symm,by first | exact ⟨0,rfl⟩ | exact ⟨_,rfl⟩ | (simp only[World.drewN_drewN];exact ⟨_,rfl⟩)⟩
 ·have hb:=hr
  rw[Bool.and_eq_true,Num.right_iff,Num.right_iff] at hb
  obtain ⟨⟨d1,d2,n1,n2,_⟩,e1,e2,m1,m2,_⟩:=hb
  have p1:=Num.mul_bd (a:=n) (b:=e) (by omega) (by omega) (by omega) (by omega)
  have p2:=Num.mul_bd (a:=m) (b:=d) (by omega) (by omega) (by omega) (by omega)
  have p3:=Num.mul_bd (a:=d) (b:=e) (by omega) (by omega) (by omega) (by omega)
  have p4:=Num.mul_bd (a:=n) (b:=m) (by omega) (by omega) (by omega) (by omega)
  have p5:=Num.mul_bd (a:=d) (b:=m) (by omega) (by omega) (by omega) (by omega)
  have HK:=Lib.hid (show Num.less n d m e=decide (n*e<m*d) by simp only[Num.less,hr,Bool.true_and])
  go_enter Tryz.func117,Tryz.ntmps117
  go_wp2_with (first | (go_at_call 143;refine (both_any _ _ _ _ (by omega) (by omega) (by omega) (by omega) (by omega) (by omega) (by omega) (by omega) _).mono ?_;rintro e' w' ⟨rfl,nk,rfl⟩))
  go_ret
  exact ⟨ret_bool HK.out.symm,by first | exact ⟨0,rfl⟩ | exact ⟨_,rfl⟩ | (simp only[World.drewN_drewN];exact ⟨_,rfl⟩)⟩
end
section
open Go.RowKit
end
section
open Go.RowKit
theorem make_to (n d x y z:Int) (hq:Num.mk n d=(x,y,z)) (h0:-9223372036854775808≤n) (h1:n≤9223372036854775807) (h2:-9223372036854775808≤d) (h3:d≤9223372036854775807) (w:World) :
  Calls Tryz.prog 164 #[.int .i64 n,.int .i64 d] w fun e' w'=>e'=.returned (.tuple #[.int .i64 x,.int .i64 y,.int .i64 z])∧∃k,w'=w.drewN k:=by
 have:=make_any n d (by assumption) (by assumption) (by assumption) (by assumption) w
 rw[hq] at this
 exact this
theorem add_to (n d m e x y z:Int) (hq:Num.add n d m e=(x,y,z)) (h0:-9223372036854775808≤n) (h1:n≤9223372036854775807) (h2:-9223372036854775808≤d) (h3:d≤9223372036854775807) (h4:-9223372036854775808≤m) (h5:m≤9223372036854775807) (h6:-9223372036854775808≤e) (h7:e≤9223372036854775807) (w:World) :
  Calls Tryz.prog 167 #[.int .i64 n,.int .i64 d,.int .i64 m,.int .i64 e] w fun e' w'=>e'=.returned (.tuple #[.int .i64 x,.int .i64 y,.int .i64 z])∧∃k,w'=w.drewN k:=by
 have:=add_any n d m e (by assumption) (by assumption) (by assumption) (by assumption) (by assumption) (by assumption) (by assumption) (by assumption) w
 rw[hq] at this
 exact this
theorem sub_to (n d m e x y z:Int) (hq:Num.sub n d m e=(x,y,z)) (h0:-9223372036854775808≤n) (h1:n≤9223372036854775807) (h2:-9223372036854775808≤d) (h3:d≤9223372036854775807) (h4:-9223372036854775808≤m) (h5:m≤9223372036854775807) (h6:-9223372036854775808≤e) (h7:e≤9223372036854775807) (w:World) :
  Calls Tryz.prog 168 #[.int .i64 n,.int .i64 d,.int .i64 m,.int .i64 e] w fun e' w'=>e'=.returned (.tuple #[.int .i64 x,.int .i64 y,.int .i64 z])∧∃k,w'=w.drewN k:=by
 have:=sub_any n d m e (by assumption) (by assumption) (by assumption) (by assumption) (by assumption) (by assumption) (by assumption) (by assumption) w
 rw[hq] at this
 exact this
theorem mul_to (n d m e x y z:Int) (hq:Num.mul n d m e=(x,y,z)) (h0:-9223372036854775808≤n) (h1:n≤9223372036854775807) (h2:-9223372036854775808≤d) (h3:d≤9223372036854775807) (h4:-9223372036854775808≤m) (h5:m≤9223372036854775807) (h6:-9223372036854775808≤e) (h7:e≤9223372036854775807) (w:World) :
  Calls Tryz.prog 169 #[.int .i64 n,.int .i64 d,.int .i64 m,.int .i64 e] w fun e' w'=>e'=.returned (.tuple #[.int .i64 x,.int .i64 y,.int .i64 z])∧∃k,w'=w.drewN k:=by
 have:=mul_any n d m e (by assumption) (by assumption) (by assumption) (by assumption) (by assumption) (by assumption) (by assumption) (by assumption) w
 rw[hq] at this
 exact this
theorem div_to (n d m e x y z:Int) (hq:Num.div n d m e=(x,y,z)) (h0:-9223372036854775808≤n) (h1:n≤9223372036854775807) (h2:-9223372036854775808≤d) (h3:d≤9223372036854775807) (h4:-9223372036854775808≤m) (h5:m≤9223372036854775807) (h6:-9223372036854775808≤e) (h7:e≤9223372036854775807) (w:World) :
  Calls Tryz.prog 170 #[.int .i64 n,.int .i64 d,.int .i64 m,.int .i64 e] w fun e' w'=>e'=.returned (.tuple #[.int .i64 x,.int .i64 y,.int .i64 z])∧∃k,w'=w.drewN k:=by
 have:=div_any n d m e (by assumption) (by assumption) (by assumption) (by assumption) (by assumption) (by assumption) (by assumption) (by assumption) w
 rw[hq] at this
 exact this
theorem less_to (n d m e:Int) (x:Bool) (hq:Num.less n d m e=x) (h0:-9223372036854775808≤n) (h1:n≤9223372036854775807) (h2:-9223372036854775808≤d) (h3:d≤9223372036854775807) (h4:-9223372036854775808≤m) (h5:m≤9223372036854775807) (h6:-9223372036854775808≤e) (h7:e≤9223372036854775807) (w:World) :
  Calls Tryz.prog 117 #[.int .i64 n,.int .i64 d,.int .i64 m,.int .i64 e] w fun e' w'=>e'=.returned (.bool x)∧∃k,w'=w.drewN k:=by
 have:=less_any n d m e (by assumption) (by assumption) (by assumption) (by assumption) (by assumption) (by assumption) (by assumption) (by assumption) w
 rw[hq] at this
 exact this
theorem right_to (n d:Int) (x:Bool) (hq:Num.right n d=x) (h0:-9223372036854775808≤n) (h1:n≤9223372036854775807) (h2:-9223372036854775808≤d) (h3:d≤9223372036854775807) (w:World) :
  Calls Tryz.prog 108 #[.int .i64 n,.int .i64 d] w fun e' w'=>e'=.returned (.bool x)∧∃k,w'=w.drewN k:=by
 have:=right_any n d (by assumption) (by assumption) (by assumption) (by assumption) w
 rw[hq] at this
 exact this
end
section
structure Ins where
 op:Int
 d:Int
 a:Int
 b:Int
 l:List Int
namespace Unt
def below (n most:Int):Bool:=decide (0≤n)&&decide (n<most)
def named (x:Ins):List Int:=
 if x.op=1∨x.op=10∨x.op=11∨x.op=14 then [x.a]
 else if x.op=12∨x.op=13 then [x.a,x.b]
 else if x.op=7∨x.op=9∨x.op=21 then x.l
 else if x.op=8∨x.op=17∨x.op=19 then x.a::x.l
 else if x.op=18∨x.op=20 then x.b::x.l
 else if x.op=16∨x.op=22 then [x.a]
 else []
def gives (x:Ins):Int:=if x.op≤7∨(9≤x.op∧x.op≤11)∨x.op=14∨x.op=17∨x.op=18 then x.d else -1
def bare (x:Ins):Bool:=
 !(decide (gives x<0)&&decide (x.d≠0))&&(!(decide (x.a≠0)&&(decide (x.op=3) || decide (x.op=4)))&&(!(decide (x.b≠0)&&(decide (x.op≠12)&&(decide (x.op≠13)&&(decide (x.op≠16)&&(decide (x.op≠18)&&decide (x.op≠20)))))) &&
  (decide (x.l.length=0) || ((decide (7≤x.op)&&decide (x.op≤9)) || (decide (17≤x.op)&&decide (x.op≤21))))))
end Unt
namespace Unt
end Unt
end
section
open Go
structure Fact where
 name:ByteArray
 least:Int
 most:Int
 pure:Bool
 folds:Bool
namespace Prims
def noFact:Fact:=⟨⟨#[]⟩,0,0,false,false⟩
def table:List Fact:=[
 ⟨⟨#[43]⟩,0, -1,true,true⟩,
 ⟨⟨#[45]⟩,1, -1,true,true⟩,
 ⟨⟨#[42]⟩,0, -1,true,true⟩,
 ⟨⟨#[47]⟩,1, -1,true,true⟩,
 ⟨⟨#[61]⟩,2,2,true,true⟩,
 ⟨⟨#[60]⟩,2,2,true,true⟩,
 ⟨⟨#[101,113,63]⟩,2,2,true,true⟩,
 ⟨⟨#[101,113,117,97,108,63]⟩,2,2,true,true⟩,
 ⟨⟨#[110,111,116]⟩,1,1,true,true⟩,
 ⟨⟨#[110,117,108,108,63]⟩,1,1,true,true⟩,
 ⟨⟨#[112,97,105,114,63]⟩,1,1,true,true⟩,
 ⟨⟨#[110,117,109,98,101,114,63]⟩,1,1,true,true⟩,
 ⟨⟨#[115,121,109,98,111,108,63]⟩,1,1,true,true⟩,
 ⟨⟨#[98,111,111,108,101,97,110,63]⟩,1,1,true,true⟩,
 ⟨⟨#[115,116,114,105,110,103,63]⟩,1,1,true,true⟩,
 ⟨⟨#[118,101,99,116,111,114,63]⟩,1,1,true,true⟩,
 ⟨⟨#[112,114,111,99,101,100,117,114,101,63]⟩,1,1,true,true⟩,
 ⟨⟨#[99,111,110,115]⟩,2,2,true,false⟩,
 ⟨⟨#[99,97,114]⟩,1,1,true,true⟩,
 ⟨⟨#[99,100,114]⟩,1,1,true,true⟩,
 ⟨⟨#[108,105,115,116]⟩,0, -1,true,false⟩,
 ⟨⟨#[118,101,99,116,111,114]⟩,0, -1,true,false⟩,
 ⟨⟨#[118,101,99,116,111,114,45,114,101,102]⟩,2,2,true,true⟩,
 ⟨⟨#[118,101,99,116,111,114,45,108,101,110,103,116,104]⟩,1,1,true,true⟩,
 ⟨⟨#[108,101,110,103,116,104]⟩,1,1,true,true⟩,
 ⟨⟨#[118,111,105,100]⟩,0,0,true,true⟩,
 ⟨⟨#[100,105,115,112,108,97,121]⟩,1,1,false,false⟩,
 ⟨⟨#[110,101,119,108,105,110,101]⟩,0,0,false,false⟩,
 ⟨⟨#[114,97,105,115,101]⟩,1,1,false,false⟩,
 ⟨⟨#[99,97,108,108,47,99,99]⟩,1,1,false,false⟩,
 ⟨⟨#[97,112,112,108,121]⟩,2,2,false,false⟩]
def facts (n:Int):Fact:=if 0≤n∧n≤30 then table.getD n.toNat noFact else noFact
def has (n:Int):Bool:=decide (0≤n∧n≤30)
def takes (n k:Int):Bool:=has n&&(decide ((facts n).least≤k)&&(decide ((facts n).most<0) || decide (k≤(facts n).most)))
end Prims
end
end Go.Proofs.YtgbibibmpoekiaaGreatDoor
