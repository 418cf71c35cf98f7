/-
  What the proofs lean on: Nums, Unt, PrimLaw.
-/
import Derived.Test.YtigkhmppnnljiaaGreatDoorProg
import Derived.WalkKit
import Derived.ProofKit
import Derived.BigQuiet
import Derived.Deep.QuietTactic
import Derived.Lib.Hide
import Derived.IntWalk
import Derived.Test.YtigkhmppnnljiaaGreatDoorPreA01
set_option maxRecDepth 100000
set_option maxHeartbeats 16000000
namespace Go.Proofs.YtigkhmppnnljiaaGreatDoor
section
open Go.RowKit
theorem ret_int {k : IntKind} {a b : Int} (h : a = b) : Ending.returned (.int k a) = .returned (.int k b) := by rw [h]
theorem ret_bool {a b : Bool} (h : a = b) : Ending.returned (.bool a) = .returned (.bool b) := by rw [h]
theorem ret_3p {a b c : Int} {p : Int × Int × Int} (h : p = (a, b, c)) : Ending.returned (.tuple #[.int .i64 a, .int .i64 b, .int .i64 c]) = .returned (.tuple #[.int .i64 p.1, .int .i64 p.2.1, .int .i64 p.2.2]) := by
 rw [h]
theorem wrap_neg_u64 (n : Int) (h0 : -9223372036854775808 ≤ n) (h : n < 0) : IntKind.u64.wrap (-IntKind.u64.wrap n) = n.natAbs := by
 simp [IntKind.wrap, IntKind.bits, IntKind.signed]
 omega
theorem amount_any (n : Int) (h0 : -9223372036854775808 ≤ n) (h1 : n ≤ 9223372036854775807) (w : World) :
  Calls Tryz.prog 134 #[.int .i64 n] w fun e w' => e = .returned (.int .u64 n.natAbs) ∧ w = w' := by
 by_cases h : n < 0
 ·go_enter Tryz.func134, Tryz.ntmps134
  go_wp2
  go_ret
  exact ⟨ret_int (wrap_neg_u64 n h0 h), rfl⟩
 ·go_enter Tryz.func134, Tryz.ntmps134
  go_wp2
  go_ret
  exact ⟨ret_int (by omega), rfl⟩
theorem rsize_any (n : Int) (h0 : -9223372036854775808 ≤ n) (h1 : n ≤ 9223372036854775807) (w : World) :
  Calls Tryz.prog 139 #[.int .i64 n] w fun e w' => e = .returned (.int .u64 n.natAbs) ∧ w = w' := by
 by_cases h : n < 0
 ·go_enter Tryz.func139, Tryz.ntmps139
  go_wp2
  go_ret
  exact ⟨ret_int (wrap_neg_u64 n h0 h), rfl⟩
 ·go_enter Tryz.func139, Tryz.ntmps139
  go_wp2
  go_ret
  exact ⟨ret_int (by omega), rfl⟩
theorem common_nat (a b : Nat) (ha : a ≤ 9223372036854775808) (hb : b ≤ 9223372036854775808) (w : World) :
  Calls Tryz.prog 133 #[.int .u64 a, .int .u64 b] w fun e w' => e = .returned (.int .u64 (Nat.gcd a b : Nat)) ∧ ∃ n, w' = w.drewN n := by
 go_enter Tryz.func133, Tryz.ntmps133
 go_wp2
 go_step3
 go_wp2
 go_step3
 go_wp2
 go_loopw [0, 1] (fun x y wr => ∃ p q : Nat, x = .int .u64 p ∧ y = .int .u64 q ∧ p ≤ 9223372036854775808 ∧ q ≤ 9223372036854775808 ∧ Nat.gcd p q = Nat.gcd a b ∧ ∃ n, wr = w.drewN n) (fun _ y _ => (intOf y).toNat)
 case atStart => exact ⟨a, b, rfl, rfl, ha, hb, rfl, 0, rfl⟩
 case round =>
  obtain ⟨p, q, rfl, rfl, hp, hq, hg, n, rfl⟩ := hrel
  have H := Lib.hid hg
  clear hg
  by_cases hz : q = 0
  ·subst hz
   go_wp2
   rw [Exit.noGoto_ret]
   go_ret
   exact ⟨ret_int (by rw [← H.out]; simp), n, rfl⟩
  ·have hz1 : ((q : Int) == 0) = false := by simpa using hz
   have hlt : p % q < q := Nat.mod_lt _ (by omega)
   have hE := Lib.hid (show Nat.gcd q (p % q) = Nat.gcd a b by rw [Nat.gcd_comm, ← Nat.gcd_rec, Nat.gcd_comm]; exact H.out)
   go_wp2
   go_quiet (fail)
   go_wp2
   go_roundw
   case rel => exact ⟨q, p % q, rfl, by go_num, hq, by omega, hE.out, _, World.drewN_drewN _ _ _⟩
   case measure => simp [intOf]; omega
theorem common_int (a b : Int) (a0 : 0 ≤ a) (ha : a ≤ 9223372036854775808) (b0 : 0 ≤ b) (hb : b ≤ 9223372036854775808) (w : World) :
  Calls Tryz.prog 133 #[.int .u64 a, .int .u64 b] w fun e w' => e = .returned (.int .u64 (Int.gcd a b)) ∧ ∃ n, w' = w.drewN n := by
 obtain ⟨p, rfl⟩ := Int.eq_ofNat_of_zero_le a0
 obtain ⟨q, rfl⟩ := Int.eq_ofNat_of_zero_le b0
 exact common_nat p q (by omega) (by omega) w
theorem rgcd_nat (a b : Nat) (ha : a ≤ 9223372036854775808) (hb : b ≤ 9223372036854775808) (w : World) :
  Calls Tryz.prog 138 #[.int .u64 a, .int .u64 b] w fun e w' => e = .returned (.int .u64 (Nat.gcd a b : Nat)) ∧ w = w' := by
 go_enter Tryz.func138, Tryz.ntmps138
 go_wp2
 go_loop [0, 1] (fun x y => ∃ p q : Nat, x = .int .u64 p ∧ y = .int .u64 q ∧ p ≤ 9223372036854775808 ∧ q ≤ 9223372036854775808 ∧ Nat.gcd p q = Nat.gcd a b) (fun _ y => (intOf y).toNat)
 case atStart => exact ⟨a, b, rfl, rfl, ha, hb, rfl⟩
 case round =>
  obtain ⟨p, q, rfl, rfl, hp, hq, hg⟩ := hrel
  have H := Lib.hid hg
  clear hg
  by_cases hz : q = 0
  ·subst hz
   go_wp2
   go_ret
   exact ⟨ret_int (by rw [← H.out]; simp), rfl⟩
  ·have hz1 : (0 : Int) < q := by omega
   have hlt : p % q < q := Nat.mod_lt _ (by omega)
   have hE := Lib.hid (show Nat.gcd q (p % q) = Nat.gcd a b by rw [Nat.gcd_comm, ← Nat.gcd_rec, Nat.gcd_comm]; exact H.out)
   go_wp2
   go_round
   case rel => exact ⟨q, p % q, rfl, by go_num, hq, by omega, hE.out⟩
   case measure => simp [intOf]; omega
theorem rgcd_int (a b : Int) (a0 : 0 ≤ a) (ha : a ≤ 9223372036854775808) (b0 : 0 ≤ b) (hb : b ≤ 9223372036854775808) (w : World) :
  Calls Tryz.prog 138 #[.int .u64 a, .int .u64 b] w fun e w' => e = .returned (.int .u64 (Int.gcd a b)) ∧ w = w' := by
 obtain ⟨p, rfl⟩ := Int.eq_ofNat_of_zero_le a0
 obtain ⟨q, rfl⟩ := Int.eq_ofNat_of_zero_le b0
 exact rgcd_nat p q (by omega) (by omega) w
theorem gcd_natAbs (n d : Int) : Int.gcd (n.natAbs : Int) d = Int.gcd n d := by simp [Int.gcd]
theorem right_any (n d : Int) (h0 : -9223372036854775808 ≤ n) (h1 : n ≤ 9223372036854775807) (h2 : -9223372036854775808 ≤ d) (h3 : d ≤ 9223372036854775807) (w : World) :
  Calls Tryz.prog 92 #[.int .i64 n, .int .i64 d] w fun e w' => e = .returned (.bool (Num.right n d)) ∧ ∃ k, w' = w.drewN k := by
 go_enter Tryz.func92, Tryz.ntmps92
 go_wp2_with (first | (go_at_call 134; refine (amount_any _ (by omega) (by omega) _).mono ?_; rintro e w' ⟨rfl, rfl⟩) | (go_at_call 133; refine (common_int _ _ (by omega) (by omega) (by omega) (by omega) _).mono ?_; rintro e w' ⟨rfl, k, rfl⟩))
 all_goals go_ret
 ·exact ⟨ret_bool (by rw [gcd_natAbs]; simp [Num.right, *]; rw [Bool.eq_iff_iff]; simp; omega), _, rfl⟩
 all_goals exact ⟨ret_bool (by simp [Num.right]; omega), 0, rfl⟩
theorem rright_any (n d : Int) (h0 : -9223372036854775808 ≤ n) (h1 : n ≤ 9223372036854775807) (h2 : -9223372036854775808 ≤ d) (h3 : d ≤ 9223372036854775807) (w : World) :
  Calls Tryz.prog 97 #[.int .i64 n, .int .i64 d] w fun e w' => e = .returned (.bool (Num.right n d)) ∧ ∃ k, w' = w.drewN k := by
 go_enter Tryz.func97, Tryz.ntmps97
 go_wp2_with (first | (go_at_call 139; refine (rsize_any _ (by omega) (by omega) _).mono ?_; rintro e w' ⟨rfl, rfl⟩) | (go_at_call 138; refine (rgcd_int _ _ (by omega) (by omega) (by omega) (by omega) _).mono ?_; rintro e w' ⟨rfl, rfl⟩))
 all_goals go_ret
 ·exact ⟨ret_bool (by rw [gcd_natAbs]; simp [Num.right, *]; rw [Bool.eq_iff_iff]; simp; omega), 0, rfl⟩
 all_goals exact ⟨ret_bool (by simp [Num.right]; omega), 0, rfl⟩
end
section
open Go.RowKit
theorem common_to (n d : Int) (G : Nat) (hG : Int.gcd n d = G) (h0 : n.natAbs ≤ 9223372036854775808) (h2 : d.natAbs ≤ 9223372036854775808) (w : World) :
  Calls Tryz.prog 133 #[.int .u64 n.natAbs, .int .u64 d.natAbs] w fun e w' => e = .returned (.int .u64 G) ∧ ∃ n, w' = w.drewN n := by
 refine (common_int _ _ (by omega) (by omega) (by omega) (by omega) w).mono ?_
 rintro e w' ⟨rfl, k⟩
 exact ⟨by rw [← hG]; simp [Int.gcd], k⟩
theorem rgcd_to (n d : Int) (G : Nat) (hG : Int.gcd n d = G) (h0 : n.natAbs ≤ 9223372036854775808) (h2 : d.natAbs ≤ 9223372036854775808) (w : World) :
  Calls Tryz.prog 138 #[.int .u64 n.natAbs, .int .u64 d.natAbs] w fun e w' => e = .returned (.int .u64 G) ∧ w = w' := by
 refine (rgcd_int _ _ (by omega) (by omega) (by omega) (by omega) w).mono ?_
 rintro e w' ⟨rfl, k⟩
 exact ⟨by rw [← hG]; simp [Int.gcd], k⟩
theorem make_any (n d : Int) (h0 : -9223372036854775808 ≤ n) (h1 : n ≤ 9223372036854775807) (h2 : -9223372036854775808 ≤ d) (h3 : d ≤ 9223372036854775807) (w : World) :
  Calls Tryz.prog 162 #[.int .i64 n, .int .i64 d] w fun e w' => e = .returned (.tuple #[.int .i64 (Num.mk n d).1, .int .i64 (Num.mk n d).2.1, .int .i64 (Num.mk n d).2.2]) ∧ ∃ k, w' = w.drewN k := by
 by_cases hd : d = 0
 ·subst hd
  go_enter Tryz.func162, Tryz.ntmps162
  go_wp2
  go_ret3
  exact ⟨ret_3p rfl, 0, rfl⟩
 ·have hg := Num.gcd_ne (n := n) hd
  have hd0 : (d == 0) = false := by simpa using hd
  obtain ⟨G, hG⟩ : ∃ G, Int.gcd n d = G := ⟨_, rfl⟩
  obtain ⟨A, hA⟩ : ∃ A, n.natAbs / G = A := ⟨_, rfl⟩
  obtain ⟨B, hB⟩ : ∃ B, d.natAbs / G = B := ⟨_, rfl⟩
  rw [hG] at hg
  have HK : Hid (Num.mk n d = if 2147483647 < A ∨ 2147483647 < B then (0, 0, 3) else if n < 0 ↔ d < 0 then ((A : Int), (B : Int), 0) else (-(A : Int), (B : Int), 0)) := Lib.hid (by simp only [Num.mk, hd, if_false, hG, hA, hB])
  have b1 : A ≤ n.natAbs := by rw [← hA]; exact Nat.div_le_self _ _
  have b2 : B ≤ d.natAbs := by rw [← hB]; exact Nat.div_le_self _ _
  have q1 : ((n.natAbs : Int) / (G : Int)) = A := by rw [← hA]; rfl
  have q2 : ((d.natAbs : Int) / (G : Int)) = B := by rw [← hB]; rfl
  have HG := Lib.hid hG
  clear hG hA hB
  have hg0 : ((G : Int) == 0) = false := by simpa using hg
  cases hn : decide (n < 0) <;> cases hm : decide (d < 0)
  all_goals
   have hn2 := hn
   have hm2 := hm
   simp only [decide_eq_true_eq, decide_eq_false_iff_not, Int.not_lt] at hn2 hm2
   go_enter Tryz.func162, Tryz.ntmps162
   go_wp2_with (first | (go_at_call 134; refine (amount_any _ (by omega) (by omega) _).mono ?_; rintro e w' ⟨rfl, rfl⟩) | (go_at_call 133; refine (common_to _ _ G HG.out (by omega) (by omega) _).mono ?_; rintro e w' ⟨rfl, k, rfl⟩))
   go_quiet (fail)
   go_wp2
   all_goals
    go_ret3
    refine ⟨ret_3p (HK.out.trans ?_), by first | exact ⟨0, rfl⟩ | exact ⟨_, rfl⟩⟩
    first
     | (rw [if_pos (by omega)])
     | (rw [if_neg (by omega), if_pos (by omega)])
     | (rw [if_neg (by omega), if_neg (by omega)])
theorem rmake_any (n d : Int) (h0 : -9223372036854775808 ≤ n) (h1 : n ≤ 9223372036854775807) (h2 : -9223372036854775808 ≤ d) (h3 : d ≤ 9223372036854775807) (w : World) :
  Calls Tryz.prog 164 #[.int .i64 n, .int .i64 d] w fun e w' => e = .returned (.tuple #[.int .i64 (Num.mk n d).1, .int .i64 (Num.mk n d).2.1, .int .i64 (Num.mk n d).2.2]) ∧ ∃ k, w' = w.drewN k := by
 by_cases hd : d = 0
 ·subst hd
  go_enter Tryz.func164, Tryz.ntmps164
  go_wp2
  go_ret3
  exact ⟨ret_3p rfl, 0, rfl⟩
 ·have hg := Num.gcd_ne (n := n) hd
  have hd0 : (d == 0) = false := by simpa using hd
  obtain ⟨G, hG⟩ : ∃ G, Int.gcd n d = G := ⟨_, rfl⟩
  obtain ⟨A, hA⟩ : ∃ A, n.natAbs / G = A := ⟨_, rfl⟩
  obtain ⟨B, hB⟩ : ∃ B, d.natAbs / G = B := ⟨_, rfl⟩
  rw [hG] at hg
  have HK : Hid (Num.mk n d = if 2147483647 < A ∨ 2147483647 < B then (0, 0, 3) else if n < 0 ↔ d < 0 then ((A : Int), (B : Int), 0) else (-(A : Int), (B : Int), 0)) := Lib.hid (by simp only [Num.mk, hd, if_false, hG, hA, hB])
  have b1 : A ≤ n.natAbs := by rw [← hA]; exact Nat.div_le_self _ _
  have b2 : B ≤ d.natAbs := by rw [← hB]; exact Nat.div_le_self _ _
  have q1 : ((n.natAbs : Int) / (G : Int)) = A := by rw [← hA]; rfl
  have q2 : ((d.natAbs : Int) / (G : Int)) = B := by rw [← hB]; rfl
  have HG := Lib.hid hG
  clear hG hA hB
  have hg0 : ((G : Int) == 0) = false := by simpa using hg
  cases hn : decide (n < 0) <;> cases hm : decide (d < 0)
  all_goals
   have hn2 := hn
   have hm2 := hm
   simp only [decide_eq_true_eq, decide_eq_false_iff_not, Int.not_lt] at hn2 hm2
   go_enter Tryz.func164, Tryz.ntmps164
   go_wp2_with (first | (go_at_call 139; refine (rsize_any _ (by omega) (by omega) _).mono ?_; rintro e w' ⟨rfl, rfl⟩) | (go_at_call 138; refine (rgcd_to _ _ G HG.out (by omega) (by omega) _).mono ?_; rintro e w' ⟨rfl, rfl⟩))
   all_goals
    go_ret3
    refine ⟨ret_3p (HK.out.trans ?_), by first | exact ⟨0, rfl⟩ | exact ⟨_, rfl⟩⟩
    first
     | (rw [if_pos (by omega)])
     | (rw [if_neg (by omega), if_pos (by omega)])
     | (rw [if_neg (by omega), if_neg (by omega)])
end
section
open Go.RowKit
end
section
open Go.RowKit
end
section
open Go.RowKit
theorem make_to (n d x y z : Int) (hq : Num.mk n d = (x, y, z)) (h0 : -9223372036854775808 ≤ n) (h1 : n ≤ 9223372036854775807) (h2 : -9223372036854775808 ≤ d) (h3 : d ≤ 9223372036854775807) (w : World) :
  Calls Tryz.prog 162 #[.int .i64 n, .int .i64 d] w fun e' w' => e' = .returned (.tuple #[.int .i64 x, .int .i64 y, .int .i64 z]) ∧ ∃ k, w' = w.drewN k := by
 have := make_any n d (by assumption) (by assumption) (by assumption) (by assumption) w
 rw [hq] at this
 exact this
theorem rmake_to (n d x y z : Int) (hq : Num.mk n d = (x, y, z)) (h0 : -9223372036854775808 ≤ n) (h1 : n ≤ 9223372036854775807) (h2 : -9223372036854775808 ≤ d) (h3 : d ≤ 9223372036854775807) (w : World) :
  Calls Tryz.prog 164 #[.int .i64 n, .int .i64 d] w fun e' w' => e' = .returned (.tuple #[.int .i64 x, .int .i64 y, .int .i64 z]) ∧ ∃ k, w' = w.drewN k := by
 have := rmake_any n d (by assumption) (by assumption) (by assumption) (by assumption) w
 rw [hq] at this
 exact this
theorem right_to (n d : Int) (x : Bool) (hq : Num.right n d = x) (h0 : -9223372036854775808 ≤ n) (h1 : n ≤ 9223372036854775807) (h2 : -9223372036854775808 ≤ d) (h3 : d ≤ 9223372036854775807) (w : World) :
  Calls Tryz.prog 92 #[.int .i64 n, .int .i64 d] w fun e' w' => e' = .returned (.bool x) ∧ ∃ k, w' = w.drewN k := by
 have := right_any n d (by assumption) (by assumption) (by assumption) (by assumption) w
 rw [hq] at this
 exact this
theorem rright_to (n d : Int) (x : Bool) (hq : Num.right n d = x) (h0 : -9223372036854775808 ≤ n) (h1 : n ≤ 9223372036854775807) (h2 : -9223372036854775808 ≤ d) (h3 : d ≤ 9223372036854775807) (w : World) :
  Calls Tryz.prog 97 #[.int .i64 n, .int .i64 d] w fun e' w' => e' = .returned (.bool x) ∧ ∃ k, w' = w.drewN k := by
 have := rright_any n d (by assumption) (by assumption) (by assumption) (by assumption) w
 rw [hq] at this
 exact this
end
section
structure Ins where
 op : Int
 d : Int
 a : Int
 b : Int
 l : List Int
structure Proc where
 args : Int
 rest : Bool
 regs : Int
 code : List Ins
 alive : List (List Int)
namespace Unt
def isOp (op : Int) : Bool := decide (0 ≤ op) && decide (op ≤ 22)
def pD (op : Int) : Bool := [0, 1, 2, 3, 4, 5, 6, 7, 9, 10, 11, 14, 17, 18].contains op
def pA (op : Int) : Bool := [1, 8, 10, 11, 12, 13, 14, 16, 17, 19, 22].contains op
def pB (op : Int) : Bool := [12, 13, 18, 20].contains op
def pL (op : Int) : Bool := [7, 8, 9, 17, 18, 19, 20, 21].contains op
def pN (op : Int) : Bool := [0, 2, 5, 6, 7, 9, 15, 18, 20, 21].contains op
def pM (op : Int) : Bool := op == 16
def below (n most : Int) : Bool := decide (0 ≤ n) && decide (n < most)
def regB (has : Bool) (n regs : Int) : Bool := (!has && n == 0) || (has && below n regs)
def tailOk (x : Ins) (nc np nk : Int) : Bool :=
 if x.op = 0 then below x.a nk
 else if x.op = 2 ∨ x.op = 9 then below x.a 31
 else if x.op = 5 ∨ x.op = 7 ∨ x.op = 18 ∨ x.op = 20 then below x.a np
 else if x.op = 6 then decide (0 ≤ x.a)
 else if x.op = 15 then below x.a nc
 else if x.op = 16 then below x.b nc
 else if x.op = 21 then decide (x.a = 29) || decide (x.a = 30)
 else true
def fits (x : Ins) (regs nc np nk : Int) : Bool :=
 isOp x.op && (regB (pD x.op) x.d regs && ((pN x.op || regB (pA x.op) x.a regs) && ((pM x.op || regB (pB x.op) x.b regs) && ((pL x.op || decide (x.l.length ≤ 0)) && (x.l.all (below · regs) && tailOk x nc np nk)))))
def named (x : Ins) : List Int :=
 if x.op = 1 ∨ x.op = 10 ∨ x.op = 11 ∨ x.op = 14 then [x.a]
 else if x.op = 12 ∨ x.op = 13 then [x.a, x.b]
 else if x.op = 7 ∨ x.op = 9 ∨ x.op = 21 then x.l
 else if x.op = 8 ∨ x.op = 17 ∨ x.op = 19 then x.a :: x.l
 else if x.op = 18 ∨ x.op = 20 then x.b :: x.l
 else if x.op = 16 ∨ x.op = 22 then [x.a]
 else []
def gives (x : Ins) : Int := if x.op ≤ 7 ∨ (9 ≤ x.op ∧ x.op ≤ 11) ∨ x.op = 14 ∨ x.op = 17 ∨ x.op = 18 then x.d else -1
def bare (x : Ins) : Bool :=
 !(decide (gives x < 0) && decide (x.d ≠ 0)) && (!(decide (x.a ≠ 0) && (decide (x.op = 3) || decide (x.op = 4))) && (!(decide (x.b ≠ 0) && (decide (x.op ≠ 12) && (decide (x.op ≠ 13) && (decide (x.op ≠ 16) && (decide (x.op ≠ 18) && decide (x.op ≠ 20)))))) &&
  (decide (x.l.length = 0) || ((decide (7 ≤ x.op) && decide (x.op ≤ 9)) || (decide (17 ≤ x.op) && decide (x.op ≤ 21))))))
def ins (x : Ins) (regs nc np nk : Int) : Bool :=
 isOp x.op && (bare x && ((named x).all (below · regs) && (!(decide (regs ≤ gives x) || (decide (gives x < -1) || decide (x.d < 0))) && tailOk x nc np nk)))
theorem ins_fits (x : Ins) (regs nc np nk : Int) (hr : 0 ≤ regs) : ins x regs nc np nk = fits x regs nc np nk := by
 obtain ⟨op, d, a, b, l⟩ := x
 cases h : isOp op with
 | false => simp [ins, fits, h]
 | true =>
  simp only [isOp, Bool.and_eq_true, decide_eq_true_eq] at h
  obtain ⟨h0, h1⟩ := h
  obtain ⟨n, rfl⟩ := Int.eq_ofNat_of_zero_le h0
  have hn : n ≤ 22 := by omega
  clear h0 h1
  generalize hA : l.all (below · regs) = A
  obtain ⟨m, hm⟩ : ∃ m, l.length = m := ⟨_, rfl⟩
  have hAl : (l.length = 0 → A = true) := fun h => by
   rw [List.length_eq_zero_iff] at h; subst h; rw [← hA]; rfl
  simp only [below] at hA
  match n, hn with
  | 0, _ | 1, _ | 2, _ | 3, _ | 4, _ | 5, _ | 6, _ | 7, _ | 8, _ | 9, _ | 10, _ | 11, _ | 12, _ | 13, _ | 14, _ | 15, _ | 16, _ | 17, _ | 18, _ | 19, _ | 20, _ | 21, _ | 22, _ =>
   rw [Bool.eq_iff_iff]
   simp only [ins, fits, bare, hm] at hAl ⊢
   cases A <;> simp [-List.all_eq_true, -List.all_eq_false, named, gives, isOp, pD, pA, pB, pL, pN, pM, regB, below, tailOk, hA] at hAl ⊢ <;> omega
  | n + 23, h => omega
end Unt
namespace Unt
def lastOp (l : List Ins) : Int := match l.getLast? with | some x => x.op | none => 0
def headB (p : Proc) : Bool := !(decide (p.args < 0) || (decide (p.regs < p.args) || (decide (20000 < p.regs) || ((p.rest && decide (p.args = 0)) || (decide ((p.code.length : Int) = 0) || decide (50000 < (p.code.length : Int)))))))
def lastB (op : Int) : Bool := decide (op = 15) || (decide (19 ≤ op) && decide (op ≤ 22))
def procsB (nk np : Int) : List Proc → Int → Bool
 | [], _ => true
 | p :: l, all => headB p && (decide (all + p.code.length ≤ 50000) && (lastB (lastOp p.code) && (p.code.all (fun x => fits x p.regs p.code.length np nk) && procsB nk np l (all + p.code.length))))
end Unt
structure Unt where
 consts : List Dat
 procs : List Proc
def Unt.okB (u : Unt) : Bool := decide (1 ≤ (u.procs.length : Int)) && (decide ((u.procs.length : Int) ≤ 1000) && (u.consts.all (fun x => Dat.right x 0) && Unt.procsB u.consts.length u.procs.length u.procs 0))
def Unt.err (u : Unt) : Int := if u.okB then 0 else 5
end
section
open Go
structure Fact where
 name : ByteArray
 least : Int
 most : Int
 pure : Bool
 folds : Bool
namespace Prims
def noFact : Fact := ⟨⟨#[]⟩, 0, 0, false, false⟩
def table : List Fact := [
 ⟨⟨#[43]⟩, 0, -1, true, true⟩,
 ⟨⟨#[45]⟩, 1, -1, true, true⟩,
 ⟨⟨#[42]⟩, 0, -1, true, true⟩,
 ⟨⟨#[47]⟩, 1, -1, true, true⟩,
 ⟨⟨#[61]⟩, 2, 2, true, true⟩,
 ⟨⟨#[60]⟩, 2, 2, true, true⟩,
 ⟨⟨#[101, 113, 63]⟩, 2, 2, true, true⟩,
 ⟨⟨#[101, 113, 117, 97, 108, 63]⟩, 2, 2, true, true⟩,
 ⟨⟨#[110, 111, 116]⟩, 1, 1, true, true⟩,
 ⟨⟨#[110, 117, 108, 108, 63]⟩, 1, 1, true, true⟩,
 ⟨⟨#[112, 97, 105, 114, 63]⟩, 1, 1, true, true⟩,
 ⟨⟨#[110, 117, 109, 98, 101, 114, 63]⟩, 1, 1, true, true⟩,
 ⟨⟨#[115, 121, 109, 98, 111, 108, 63]⟩, 1, 1, true, true⟩,
 ⟨⟨#[98, 111, 111, 108, 101, 97, 110, 63]⟩, 1, 1, true, true⟩,
 ⟨⟨#[115, 116, 114, 105, 110, 103, 63]⟩, 1, 1, true, true⟩,
 ⟨⟨#[118, 101, 99, 116, 111, 114, 63]⟩, 1, 1, true, true⟩,
 ⟨⟨#[112, 114, 111, 99, 101, 100, 117, 114, 101, 63]⟩, 1, 1, true, true⟩,
 ⟨⟨#[99, 111, 110, 115]⟩, 2, 2, true, false⟩,
 ⟨⟨#[99, 97, 114]⟩, 1, 1, true, true⟩,
 ⟨⟨#[99, 100, 114]⟩, 1, 1, true, true⟩,
 ⟨⟨#[108, 105, 115, 116]⟩, 0, -1, true, false⟩,
 ⟨⟨#[118, 101, 99, 116, 111, 114]⟩, 0, -1, true, false⟩,
 ⟨⟨#[118, 101, 99, 116, 111, 114, 45, 114, 101, 102]⟩, 2, 2, true, true⟩,
 ⟨⟨#[118, 101, 99, 116, 111, 114, 45, 108, 101, 110, 103, 116, 104]⟩, 1, 1, true, true⟩,
 ⟨⟨#[108, 101, 110, 103, 116, 104]⟩, 1, 1, true, true⟩,
 ⟨⟨#[118, 111, 105, 100]⟩, 0, 0, true, true⟩,
 ⟨⟨#[100, 105, 115, 112, 108, 97, 121]⟩, 1, 1, false, false⟩,
 ⟨⟨#[110, 101, 119, 108, 105, 110, 101]⟩, 0, 0, false, false⟩,
 ⟨⟨#[114, 97, 105, 115, 101]⟩, 1, 1, false, false⟩,
 ⟨⟨#[99, 97, 108, 108, 47, 99, 99]⟩, 1, 1, false, false⟩,
 ⟨⟨#[97, 112, 112, 108, 121]⟩, 2, 2, false, false⟩]
def facts (n : Int) : Fact := if 0 ≤ n ∧ n ≤ 30 then table.getD n.toNat noFact else noFact
def has (n : Int) : Bool := decide (0 ≤ n ∧ n ≤ 30)
end Prims
end
end Go.Proofs.YtigkhmppnnljiaaGreatDoor
