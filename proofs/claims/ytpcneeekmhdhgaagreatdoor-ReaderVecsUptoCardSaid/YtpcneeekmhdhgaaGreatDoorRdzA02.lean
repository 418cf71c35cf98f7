/-
  What the proofs lean on: Nums, Unt, Rd, Env, RdLaw.
-/
import Derived.Test.YtpcneeekmhdhgaaGreatDoorProg
import Derived.WalkKit
import Derived.ProofKit
import Derived.BigQuiet
import Derived.Deep.QuietTactic
import Derived.Lib.Hide
import Derived.IntWalk
import Derived.Lib.LaidTab
import Derived.Lib.AppendIntMem
import Derived.Lib.ItoaLen
import Derived.Test.YtpcneeekmhdhgaaGreatDoorRdzA01
set_option maxRecDepth 100000
set_option maxHeartbeats 16000000
namespace Go.Proofs.YtpcneeekmhdhgaaGreatDoor
section
open Go.RowKit
theorem ret_int {k : IntKind} {a b : Int} (h : a = b) : Ending.returned (.int k a) = .returned (.int k b) := by rw [h]
theorem ret_bool {a b : Bool} (h : a = b) : Ending.returned (.bool a) = .returned (.bool b) := by rw [h]
theorem ret_3p {a b c : Int} {p : Int × Int × Int} (h : p = (a, b, c)) : Ending.returned (.tuple #[.int .i64 a, .int .i64 b, .int .i64 c]) = .returned (.tuple #[.int .i64 p.1, .int .i64 p.2.1, .int .i64 p.2.2]) := by
 rw [h]
theorem wrap_neg_u64 (n : Int) (h0 : -9223372036854775808 ≤ n) (h : n < 0) : IntKind.u64.wrap (-IntKind.u64.wrap n) = n.natAbs := by
 simp [IntKind.wrap, IntKind.bits, IntKind.signed]
 omega
theorem amount_any (n : Int) (h0 : -9223372036854775808 ≤ n) (h1 : n ≤ 9223372036854775807) (w : World) :
  Calls Tryz.prog 140 #[.int .i64 n] w fun e w' => e = .returned (.int .u64 n.natAbs) ∧ w = w' := by
 by_cases h : n < 0
 ·go_enter Tryz.func140, Tryz.ntmps140
  go_wp2
  go_ret
  exact ⟨ret_int (wrap_neg_u64 n h0 h), rfl⟩
 ·go_enter Tryz.func140, Tryz.ntmps140
  go_wp2
  go_ret
  exact ⟨ret_int (by omega), rfl⟩
theorem rsize_any (n : Int) (h0 : -9223372036854775808 ≤ n) (h1 : n ≤ 9223372036854775807) (w : World) :
  Calls Tryz.prog 46 #[.int .i64 n] w fun e w' => e = .returned (.int .u64 n.natAbs) ∧ w = w' := by
 by_cases h : n < 0
 ·go_enter Tryz.func46, Tryz.ntmps46
  go_wp2
  go_ret
  exact ⟨ret_int (wrap_neg_u64 n h0 h), rfl⟩
 ·go_enter Tryz.func46, Tryz.ntmps46
  go_wp2
  go_ret
  exact ⟨ret_int (by omega), rfl⟩
theorem common_nat (a b : Nat) (ha : a ≤ 9223372036854775808) (hb : b ≤ 9223372036854775808) (w : World) :
  Calls Tryz.prog 141 #[.int .u64 a, .int .u64 b] w fun e w' => e = .returned (.int .u64 (Nat.gcd a b : Nat)) ∧ ∃ n, w' = w.drewN n := by
 go_enter Tryz.func141, Tryz.ntmps141
 go_wp2
 go_step3
 go_wp2
 go_step3
 go_wp2
 go_loopw [0, 1] (fun x y wr => ∃ p q : Nat, x = .int .u64 p ∧ y = .int .u64 q ∧ p ≤ 9223372036854775808 ∧ q ≤ 9223372036854775808 ∧ Nat.gcd p q = Nat.gcd a b ∧ ∃ n, wr = w.drewN n) (fun _ y _ => (intOf y).toNat)
 case atStart => exact ⟨a, b, rfl, rfl, ha, hb, rfl, 0, rfl⟩
 case round =>
  obtain ⟨p, q, rfl, rfl, hp, hq, hg, n, rfl⟩ := hrel
  have H := Lib.hid hg
  clear hg
  by_cases hz : q = 0
  ·subst hz
   go_wp2
   rw [Exit.noGoto_ret]
   go_ret
   exact ⟨ret_int (by rw [← H.out]; simp), n, rfl⟩
  ·have hz1 : ((q : Int) == 0) = false := by simpa using hz
   have hlt : p % q < q := Nat.mod_lt _ (by omega)
   have hE := Lib.hid (show Nat.gcd q (p % q) = Nat.gcd a b by rw [Nat.gcd_comm, ← Nat.gcd_rec, Nat.gcd_comm]; exact H.out)
   go_wp2
   go_quiet (fail)
   go_wp2
   go_roundw
   case rel => exact ⟨q, p % q, rfl, by go_num, hq, by omega, hE.out, _, World.drewN_drewN _ _ _⟩
   case measure => simp [intOf]; omega
theorem common_int (a b : Int) (a0 : 0 ≤ a) (ha : a ≤ 9223372036854775808) (b0 : 0 ≤ b) (hb : b ≤ 9223372036854775808) (w : World) :
  Calls Tryz.prog 141 #[.int .u64 a, .int .u64 b] w fun e w' => e = .returned (.int .u64 (Int.gcd a b)) ∧ ∃ n, w' = w.drewN n := by
 obtain ⟨p, rfl⟩ := Int.eq_ofNat_of_zero_le a0
 obtain ⟨q, rfl⟩ := Int.eq_ofNat_of_zero_le b0
 exact common_nat p q (by omega) (by omega) w
theorem rgcd_nat (a b : Nat) (ha : a ≤ 9223372036854775808) (hb : b ≤ 9223372036854775808) (w : World) :
  Calls Tryz.prog 83 #[.int .u64 a, .int .u64 b] w fun e w' => e = .returned (.int .u64 (Nat.gcd a b : Nat)) ∧ w = w' := by
 go_enter Tryz.func83, Tryz.ntmps83
 go_wp2
 go_loop [0, 1] (fun x y => ∃ p q : Nat, x = .int .u64 p ∧ y = .int .u64 q ∧ p ≤ 9223372036854775808 ∧ q ≤ 9223372036854775808 ∧ Nat.gcd p q = Nat.gcd a b) (fun _ y => (intOf y).toNat)
 case atStart => exact ⟨a, b, rfl, rfl, ha, hb, rfl⟩
 case round =>
  obtain ⟨p, q, rfl, rfl, hp, hq, hg⟩ := hrel
  have H := Lib.hid hg
  clear hg
  by_cases hz : q = 0
  ·subst hz
   go_wp2
   go_ret
   exact ⟨ret_int (by rw [← H.out]; simp), rfl⟩
  ·have hz1 : (0 : Int) < q := by omega
   have hlt : p % q < q := Nat.mod_lt _ (by omega)
   have hE := Lib.hid (show Nat.gcd q (p % q) = Nat.gcd a b by rw [Nat.gcd_comm, ← Nat.gcd_rec, Nat.gcd_comm]; exact H.out)
   go_wp2
   go_round
   case rel => exact ⟨q, p % q, rfl, by go_num, hq, by omega, hE.out⟩
   case measure => simp [intOf]; omega
theorem rgcd_int (a b : Int) (a0 : 0 ≤ a) (ha : a ≤ 9223372036854775808) (b0 : 0 ≤ b) (hb : b ≤ 9223372036854775808) (w : World) :
  Calls Tryz.prog 83 #[.int .u64 a, .int .u64 b] w fun e w' => e = .returned (.int .u64 (Int.gcd a b)) ∧ w = w' := by
 obtain ⟨p, rfl⟩ := Int.eq_ofNat_of_zero_le a0
 obtain ⟨q, rfl⟩ := Int.eq_ofNat_of_zero_le b0
 exact rgcd_nat p q (by omega) (by omega) w
theorem gcd_natAbs (n d : Int) : Int.gcd (n.natAbs : Int) d = Int.gcd n d := by simp [Int.gcd]
theorem right_any (n d : Int) (h0 : -9223372036854775808 ≤ n) (h1 : n ≤ 9223372036854775807) (h2 : -9223372036854775808 ≤ d) (h3 : d ≤ 9223372036854775807) (w : World) :
  Calls Tryz.prog 128 #[.int .i64 n, .int .i64 d] w fun e w' => e = .returned (.bool (Num.right n d)) ∧ ∃ k, w' = w.drewN k := by
 go_enter Tryz.func128, Tryz.ntmps128
 go_wp2_with (first | (go_at_call 140; refine (amount_any _ (by omega) (by omega) _).mono ?_; rintro e w' ⟨rfl, rfl⟩) | (go_at_call 141; refine (common_int _ _ (by omega) (by omega) (by omega) (by omega) _).mono ?_; rintro e w' ⟨rfl, k, rfl⟩))
 all_goals go_ret
 ·exact ⟨ret_bool (by rw [gcd_natAbs]; simp [Num.right, *]; rw [Bool.eq_iff_iff]; simp; omega), _, rfl⟩
 all_goals exact ⟨ret_bool (by simp [Num.right]; omega), 0, rfl⟩
theorem rright_any (n d : Int) (h0 : -9223372036854775808 ≤ n) (h1 : n ≤ 9223372036854775807) (h2 : -9223372036854775808 ≤ d) (h3 : d ≤ 9223372036854775807) (w : World) :
  Calls Tryz.prog 44 #[.int .i64 n, .int .i64 d] w fun e w' => e = .returned (.bool (Num.right n d)) ∧ ∃ k, w' = w.drewN k := by
 go_enter Tryz.func44, Tryz.ntmps44
 go_wp2_with (first | (go_at_call 46; refine (rsize_any _ (by omega) (by omega) _).mono ?_; rintro e w' ⟨rfl, rfl⟩) | (go_at_call 83; refine (rgcd_int _ _ (by omega) (by omega) (by omega) (by omega) _).mono ?_; rintro e w' ⟨rfl, rfl⟩))
 all_goals go_ret
 ·exact ⟨ret_bool (by rw [gcd_natAbs]; simp [Num.right, *]; rw [Bool.eq_iff_iff]; simp; omega), 0, rfl⟩
 all_goals exact ⟨ret_bool (by simp [Num.right]; omega), 0, rfl⟩
end
section
open Go.RowKit
theorem common_to (n d : Int) (G : Nat) (hG : Int.gcd n d = G) (h0 : n.natAbs ≤ 9223372036854775808) (h2 : d.natAbs ≤ 9223372036854775808) (w : World) :
  Calls Tryz.prog 141 #[.int .u64 n.natAbs, .int .u64 d.natAbs] w fun e w' => e = .returned (.int .u64 G) ∧ ∃ n, w' = w.drewN n := by
 refine (common_int _ _ (by omega) (by omega) (by omega) (by omega) w).mono ?_
 rintro e w' ⟨rfl, k⟩
 exact ⟨by rw [← hG]; simp [Int.gcd], k⟩
theorem rgcd_to (n d : Int) (G : Nat) (hG : Int.gcd n d = G) (h0 : n.natAbs ≤ 9223372036854775808) (h2 : d.natAbs ≤ 9223372036854775808) (w : World) :
  Calls Tryz.prog 83 #[.int .u64 n.natAbs, .int .u64 d.natAbs] w fun e w' => e = .returned (.int .u64 G) ∧ w = w' := by
 refine (rgcd_int _ _ (by omega) (by omega) (by omega) (by omega) w).mono ?_
 rintro e w' ⟨rfl, k⟩
 exact ⟨by rw [← hG]; simp [Int.gcd], k⟩
theorem make_any (n d : Int) (h0 : -9223372036854775808 ≤ n) (h1 : n ≤ 9223372036854775807) (h2 : -9223372036854775808 ≤ d) (h3 : d ≤ 9223372036854775807) (w : World) :
  Calls Tryz.prog 96 #[.int .i64 n, .int .i64 d] w fun e w' => e = .returned (.tuple #[.int .i64 (Num.mk n d).1, .int .i64 (Num.mk n d).2.1, .int .i64 (Num.mk n d).2.2]) ∧ ∃ k, w' = w.drewN k := by
 by_cases hd : d = 0
 ·subst hd
  go_enter Tryz.func96, Tryz.ntmps96
  go_wp2
  go_ret3
  exact ⟨ret_3p rfl, 0, rfl⟩
 ·have hg := Num.gcd_ne (n := n) hd
  have hd0 : (d == 0) = false := by simpa using hd
  obtain ⟨G, hG⟩ : ∃ G, Int.gcd n d = G := ⟨_, rfl⟩
  obtain ⟨A, hA⟩ : ∃ A, n.natAbs / G = A := ⟨_, rfl⟩
  obtain ⟨B, hB⟩ : ∃ B, d.natAbs / G = B := ⟨_, rfl⟩
  rw [hG] at hg
  have HK : Hid (Num.mk n d = if 2147483647 < A ∨ 2147483647 < B then (0, 0, 3) else if n < 0 ↔ d < 0 then ((A : Int), (B : Int), 0) else (-(A : Int), (B : Int), 0)) := Lib.hid (by simp only [Num.mk, hd, if_false, hG, hA, hB])
  have b1 : A ≤ n.natAbs := by rw [← hA]; exact Nat.div_le_self _ _
  have b2 : B ≤ d.natAbs := by rw [← hB]; exact Nat.div_le_self _ _
  have q1 : ((n.natAbs : Int) / (G : Int)) = A := by rw [← hA]; rfl
  have q2 : ((d.natAbs : Int) / (G : Int)) = B := by rw [← hB]; rfl
  have HG := Lib.hid hG
  clear hG hA hB
  have hg0 : ((G : Int) == 0) = false := by simpa using hg
  cases hn : decide (n < 0) <;> cases hm : decide (d < 0)
  all_goals
   have hn2 := hn
   have hm2 := hm
   simp only [decide_eq_true_eq, decide_eq_false_iff_not, Int.not_lt] at hn2 hm2
   go_enter Tryz.func96, Tryz.ntmps96
   go_wp2_with (first | (go_at_call 140; refine (amount_any _ (by omega) (by omega) _).mono ?_; rintro e w' ⟨rfl, rfl⟩) | (go_at_call 141; refine (common_to _ _ G HG.out (by omega) (by omega) _).mono ?_; rintro e w' ⟨rfl, k, rfl⟩))
   go_quiet (fail)
   go_wp2
   all_goals
    go_ret3
    refine ⟨ret_3p (HK.out.trans ?_), by first | exact ⟨0, rfl⟩ | exact ⟨_, rfl⟩⟩
    first
     | (rw [if_pos (by omega)])
     | (rw [if_neg (by omega), if_pos (by omega)])
     | (rw [if_neg (by omega), if_neg (by omega)])
theorem rmake_any (n d : Int) (h0 : -9223372036854775808 ≤ n) (h1 : n ≤ 9223372036854775807) (h2 : -9223372036854775808 ≤ d) (h3 : d ≤ 9223372036854775807) (w : World) :
  Calls Tryz.prog 155 #[.int .i64 n, .int .i64 d] w fun e w' => e = .returned (.tuple #[.int .i64 (Num.mk n d).1, .int .i64 (Num.mk n d).2.1, .int .i64 (Num.mk n d).2.2]) ∧ ∃ k, w' = w.drewN k := by
 by_cases hd : d = 0
 ·subst hd
  go_enter Tryz.func155, Tryz.ntmps155
  go_wp2
  go_ret3
  exact ⟨ret_3p rfl, 0, rfl⟩
 ·have hg := Num.gcd_ne (n := n) hd
  have hd0 : (d == 0) = false := by simpa using hd
  obtain ⟨G, hG⟩ : ∃ G, Int.gcd n d = G := ⟨_, rfl⟩
  obtain ⟨A, hA⟩ : ∃ A, n.natAbs / G = A := ⟨_, rfl⟩
  obtain ⟨B, hB⟩ : ∃ B, d.natAbs / G = B := ⟨_, rfl⟩
  rw [hG] at hg
  have HK : Hid (Num.mk n d = if 2147483647 < A ∨ 2147483647 < B then (0, 0, 3) else if n < 0 ↔ d < 0 then ((A : Int), (B : Int), 0) else (-(A : Int), (B : Int), 0)) := Lib.hid (by simp only [Num.mk, hd, if_false, hG, hA, hB])
  have b1 : A ≤ n.natAbs := by rw [← hA]; exact Nat.div_le_self _ _
  have b2 : B ≤ d.natAbs := by rw [← hB]; exact Nat.div_le_self _ _
  have q1 : ((n.natAbs : Int) / (G : Int)) = A := by rw [← hA]; rfl
  have q2 : ((d.natAbs : Int) / (G : Int)) = B := by rw [← hB]; rfl
  have HG := Lib.hid hG
  clear hG hA hB
  have hg0 : ((G : Int) == 0) = false := by simpa using hg
  cases hn : decide (n < 0) <;> cases hm : decide (d < 0)
  all_goals
   have hn2 := hn
   have hm2 := hm
   simp only [decide_eq_true_eq, decide_eq_false_iff_not, Int.not_lt] at hn2 hm2
   go_enter Tryz.func155, Tryz.ntmps155
   go_wp2_with (first | (go_at_call 46; refine (rsize_any _ (by omega) (by omega) _).mono ?_; rintro e w' ⟨rfl, rfl⟩) | (go_at_call 83; refine (rgcd_to _ _ G HG.out (by omega) (by omega) _).mono ?_; rintro e w' ⟨rfl, rfl⟩))
   all_goals
    go_ret3
    refine ⟨ret_3p (HK.out.trans ?_), by first | exact ⟨0, rfl⟩ | exact ⟨_, rfl⟩⟩
    first
     | (rw [if_pos (by omega)])
     | (rw [if_neg (by omega), if_pos (by omega)])
     | (rw [if_neg (by omega), if_neg (by omega)])
end
section
open Go.RowKit
end
section
open Go.RowKit
end
section
open Go.RowKit
theorem make_to (n d x y z : Int) (hq : Num.mk n d = (x, y, z)) (h0 : -9223372036854775808 ≤ n) (h1 : n ≤ 9223372036854775807) (h2 : -9223372036854775808 ≤ d) (h3 : d ≤ 9223372036854775807) (w : World) :
  Calls Tryz.prog 96 #[.int .i64 n, .int .i64 d] w fun e' w' => e' = .returned (.tuple #[.int .i64 x, .int .i64 y, .int .i64 z]) ∧ ∃ k, w' = w.drewN k := by
 have := make_any n d (by assumption) (by assumption) (by assumption) (by assumption) w
 rw [hq] at this
 exact this
theorem rmake_to (n d x y z : Int) (hq : Num.mk n d = (x, y, z)) (h0 : -9223372036854775808 ≤ n) (h1 : n ≤ 9223372036854775807) (h2 : -9223372036854775808 ≤ d) (h3 : d ≤ 9223372036854775807) (w : World) :
  Calls Tryz.prog 155 #[.int .i64 n, .int .i64 d] w fun e' w' => e' = .returned (.tuple #[.int .i64 x, .int .i64 y, .int .i64 z]) ∧ ∃ k, w' = w.drewN k := by
 have := rmake_any n d (by assumption) (by assumption) (by assumption) (by assumption) w
 rw [hq] at this
 exact this
theorem right_to (n d : Int) (x : Bool) (hq : Num.right n d = x) (h0 : -9223372036854775808 ≤ n) (h1 : n ≤ 9223372036854775807) (h2 : -9223372036854775808 ≤ d) (h3 : d ≤ 9223372036854775807) (w : World) :
  Calls Tryz.prog 128 #[.int .i64 n, .int .i64 d] w fun e' w' => e' = .returned (.bool x) ∧ ∃ k, w' = w.drewN k := by
 have := right_any n d (by assumption) (by assumption) (by assumption) (by assumption) w
 rw [hq] at this
 exact this
theorem rright_to (n d : Int) (x : Bool) (hq : Num.right n d = x) (h0 : -9223372036854775808 ≤ n) (h1 : n ≤ 9223372036854775807) (h2 : -9223372036854775808 ≤ d) (h3 : d ≤ 9223372036854775807) (w : World) :
  Calls Tryz.prog 44 #[.int .i64 n, .int .i64 d] w fun e' w' => e' = .returned (.bool x) ∧ ∃ k, w' = w.drewN k := by
 have := rright_any n d (by assumption) (by assumption) (by assumption) (by assumption) w
 rw [hq] at this
 exact this
end
section
structure Ins where
 op : Int
 d : Int
 a : Int
 b : Int
 l : List Int
namespace Unt
def below (n most : Int) : Bool := decide (0 ≤ n) && decide (n < most)
def named (x : Ins) : List Int :=
 if x.op = 1 ∨ x.op = 10 ∨ x.op = 11 ∨ x.op = 14 then [x.a]
 else if x.op = 12 ∨ x.op = 13 then [x.a, x.b]
 else if x.op = 7 ∨ x.op = 9 ∨ x.op = 21 then x.l
 else if x.op = 8 ∨ x.op = 17 ∨ x.op = 19 then x.a :: x.l
 else if x.op = 18 ∨ x.op = 20 then x.b :: x.l
 else if x.op = 16 ∨ x.op = 22 then [x.a]
 else []
def gives (x : Ins) : Int := if x.op ≤ 7 ∨ (9 ≤ x.op ∧ x.op ≤ 11) ∨ x.op = 14 ∨ x.op = 17 ∨ x.op = 18 then x.d else -1
def bare (x : Ins) : Bool :=
 !(decide (gives x < 0) && decide (x.d ≠ 0)) && (!(decide (x.a ≠ 0) && (decide (x.op = 3) || decide (x.op = 4))) && (!(decide (x.b ≠ 0) && (decide (x.op ≠ 12) && (decide (x.op ≠ 13) && (decide (x.op ≠ 16) && (decide (x.op ≠ 18) && decide (x.op ≠ 20)))))) &&
  (decide (x.l.length = 0) || ((decide (7 ≤ x.op) && decide (x.op ≤ 9)) || (decide (17 ≤ x.op) && decide (x.op ≤ 21))))))
end Unt
namespace Unt
end Unt
end
section
namespace Rd
open Go Dat
inductive Res (α : Type) where
 | ok (x : α) (r : List UInt8)
 | bad (r : List UInt8)
def Res.map {α β : Type} (f : α → β) : Res α → Res β
 | .ok x r => .ok (f x) r
 | .bad r => .bad r
def wordsL : List UInt8 := [97, 98, 99, 100, 101, 102, 103, 104, 105, 106, 107, 108, 109, 110, 111, 112, 113, 114, 115, 116, 117, 118, 119, 120, 121, 122, 48, 49, 50, 51, 52, 53, 54, 55, 56, 57, 45, 43, 42, 47, 60, 62, 61, 33, 63, 95]
def mark (b : UInt8) : Bool := wordsL.contains b
def skip : Bool → List UInt8 → List UInt8
 | _, [] => []
 | true, b :: r => if b = 10 then skip false r else skip true r
 | false, b :: r => if b = 59 then skip true r else if b = 32 ∨ b = 10 ∨ b = 9 then skip false r else b :: r
def word (r : List UInt8) : Res Dat :=
 if (Num.parse (r.takeWhile mark)).2.2 then .ok (mk 0 (Num.parse (r.takeWhile mark)).1 (Num.parse (r.takeWhile mark)).2.1 emptyB []) (r.dropWhile mark)
 else if 40 < (r.takeWhile mark).length then .bad r
 else .ok (mk 2 0 0 ⟨(r.takeWhile mark).toArray⟩ []) (r.dropWhile mark)
def str (r : List UInt8) : Res Dat :=
 match r.dropWhile strByte with
 | [] => .bad []
 | b :: t => if b = 34 then .ok (mk 3 0 0 ⟨(r.takeWhile strByte).toArray⟩ []) t else .bad (b :: t)
def quoteD : Dat := mk 2 0 0 ⟨#[113, 117, 111, 116, 101]⟩ []
def quoted (x : Dat) : Dat := list [quoteD, x]
def chain (p : List Dat × Dat) : Dat := p.1.foldr pair p.2
def hashF (S : Bool → Bool → List UInt8 → Res (List Dat × Dat)) (t : List UInt8) : Res Dat :=
 match t with
 | [] => .bad []
 | c :: t' =>
  if c = 116 then .ok (mk 1 1 0 emptyB []) t'
  else if c = 102 then .ok (mk 1 0 0 emptyB []) t'
  else if c = 118 then .ok (mk 5 0 0 emptyB []) t'
  else if c = 40 then (S false false t').map fun p => mk 7 0 0 emptyB p.1
  else .bad (c :: t')
def headF (D : List UInt8 → Res Dat) (S : Bool → Bool → List UInt8 → Res (List Dat × Dat)) (b : UInt8) (t : List UInt8) : Res Dat :=
 if mark b = true then word (b :: t)
 else if b = 34 then str t
 else if b = 39 then (D t).map quoted
 else if b = 35 then hashF S t
 else if b = 40 then (S true false t).map chain
 else .bad (b :: t)
def datF (D : List UInt8 → Res Dat) (S : Bool → Bool → List UInt8 → Res (List Dat × Dat)) (r : List UInt8) : Res Dat :=
 match skip false r with
 | [] => .bad []
 | b :: t => headF D S b t
def shutF (x : Dat) (q : List UInt8) : Res (List Dat × Dat) :=
 match skip false q with
 | [] => .bad []
 | c :: t' => if c = 41 then .ok ([], x) t' else .bad (c :: t')
def pointF (D : List UInt8 → Res Dat) (t : List UInt8) : Res (List Dat × Dat) :=
 match D t with
 | .bad q => .bad q
 | .ok x q => shutF x q
def oneF (D : List UInt8 → Res Dat) (S : List UInt8 → Res (List Dat × Dat)) (r : List UInt8) : Res (List Dat × Dat) :=
 match D r with
 | .bad q => .bad q
 | .ok x q => (S q).map fun p => (x :: p.1, p.2)
def seqH (D : List UInt8 → Res Dat) (S : Bool → Bool → List UInt8 → Res (List Dat × Dat)) (pair any : Bool) (b : UInt8) (t : List UInt8) : Res (List Dat × Dat) :=
 if b = 41 then .ok ([], null) t
 else if b = 46 ∧ pair = true ∧ any = true then pointF D t
 else oneF D (S pair true) (b :: t)
def seqF (D : List UInt8 → Res Dat) (S : Bool → Bool → List UInt8 → Res (List Dat × Dat)) (pair any : Bool) (r : List UInt8) : Res (List Dat × Dat) :=
 match skip false r with
 | [] => .bad []
 | b :: t => seqH D S pair any b t
def both : Nat → (List UInt8 → Res Dat) × (Bool → Bool → List UInt8 → Res (List Dat × Dat))
 | 0 => (fun r => .bad r, fun _ _ r => .bad r)
 | f + 1 => (datF (both f).1 (both f).2, seqF (both f).1 (both f).2)
def D (r : List UInt8) : Res Dat := (both (2 * r.length + 1)).1 r
def S (pair any : Bool) (r : List UInt8) : Res (List Dat × Dat) := (both (2 * r.length + 2)).2 pair any r
def allF : Nat → List UInt8 → Res (List Dat)
 | 0, r => .bad r
 | f + 1, r => match skip false r with
  | [] => .ok [] []
  | b :: t => match D (b :: t) with
   | .bad q => .bad q
   | .ok x q => if right x 0 = true then (allF f q).map (x :: ·) else .bad (b :: t)
def A (r : List UInt8) : Res (List Dat) := allF (r.length + 1) r
theorem skip_suf : ∀ (r : List UInt8) (m : Bool), skip m r <:+ r
 | [], m => by cases m <;> exact List.suffix_refl _
 | b :: r, true => by
  simp only [skip]
  split
  ·exact (skip_suf r false).trans (List.suffix_cons b r)
  ·exact (skip_suf r true).trans (List.suffix_cons b r)
 | b :: r, false => by
  simp only [skip]
  split
  ·exact (skip_suf r true).trans (List.suffix_cons b r)
  split
  ·exact (skip_suf r false).trans (List.suffix_cons b r)
  ·exact List.suffix_refl _
theorem skip_le (r : List UInt8) (m : Bool) : (skip m r).length ≤ r.length := (skip_suf r m).length_le
theorem dropWhile_suf (p : UInt8 → Bool) (r : List UInt8) : r.dropWhile p <:+ r := List.dropWhile_suffix p
def Good {α : Type} (r : List UInt8) : Res α → Prop
 | .ok _ q => q <:+ r ∧ q.length < r.length
 | .bad q => q <:+ r
theorem Good.map {α β : Type} {r : List UInt8} {x : Res α} (h : Good r x) (f : α → β) : Good r (x.map f) := by cases x <;> exact h
theorem Good.more {α : Type} {r r' : List UInt8} {x : Res α} (h : Good r x) (hr : r <:+ r') : Good r' x := by
 have := hr.length_le
 cases x with
 | ok x q => exact ⟨h.1.trans hr, by have := h.2; omega⟩
 | bad q => exact List.IsSuffix.trans h hr
theorem word_good {b : UInt8} {t : List UInt8} (hb : mark b = true) : Good (b :: t) (word (b :: t)) := by
 have h : (b :: t).dropWhile mark <:+ t := by rw [List.dropWhile_cons_of_pos hb]; exact dropWhile_suf _ _
 have hl := h.length_le
 unfold word
 split
 ·exact ⟨dropWhile_suf _ _, by simp only [List.length_cons]; omega⟩
 split
 ·exact List.suffix_refl _
 ·exact ⟨dropWhile_suf _ _, by simp only [List.length_cons]; omega⟩
theorem str_good (r : List UInt8) : Good r (str r) := by
 have h := dropWhile_suf strByte r
 unfold str
 split
 ·exact List.nil_suffix
 ·rename_i b t he
  rw [he] at h
  split
  ·exact ⟨(List.suffix_cons b t).trans h, by have := h.length_le; simp only [List.length_cons] at this; omega⟩
  ·exact h
section
variable {D : List UInt8 → Res Dat} {S : Bool → Bool → List UInt8 → Res (List Dat × Dat)}
theorem hashF_good (hS : ∀ p a t, Good t (S p a t)) (t : List UInt8) : Good t (hashF S t) := by
 unfold hashF
 split
 ·exact List.nil_suffix
 ·rename_i c t'
  have hc : t' <:+ c :: t' := List.suffix_cons c t'
  have hl : t'.length < (c :: t').length := by simp
  repeat' split
  ·exact ⟨hc, hl⟩
  ·exact ⟨hc, hl⟩
  ·exact ⟨hc, hl⟩
  ·exact ((hS false false t').map _).more hc
  ·exact List.suffix_refl _
theorem headF_good (hD : ∀ t, Good t (D t)) (hS : ∀ p a t, Good t (S p a t)) (b : UInt8) (t : List UInt8) : Good (b :: t) (headF D S b t) := by
 have hc : t <:+ b :: t := List.suffix_cons b t
 unfold headF
 split
 ·rename_i hb; exact word_good hb
 repeat' split
 ·exact (str_good t).more hc
 ·exact ((hD t).map _).more hc
 ·exact (hashF_good hS t).more hc
 ·exact ((hS true false t).map _).more hc
 ·exact List.suffix_refl _
theorem datF_good (hD : ∀ t, Good t (D t)) (hS : ∀ p a t, Good t (S p a t)) (r : List UInt8) : Good r (datF D S r) := by
 have h := skip_suf r false
 unfold datF
 split
 ·exact List.nil_suffix
 ·rename_i b t he
  rw [he] at h
  exact (headF_good hD hS b t).more h
theorem shutF_good (x : Dat) (q : List UInt8) : Good q (shutF x q) := by
 have h2 := skip_suf q false
 unfold shutF
 split
 ·exact List.nil_suffix
 ·rename_i c t' hs
  rw [hs] at h2
  have h3 := h2.length_le
  simp only [List.length_cons] at h3
  split
  ·exact ⟨(List.suffix_cons c t').trans h2, by omega⟩
  ·exact h2
theorem pointF_good (hD : ∀ t, Good t (D t)) (t : List UInt8) : Good t (pointF D t) := by
 have h := hD t
 unfold pointF
 split
 ·rename_i q he; rw [he] at h; exact h
 ·rename_i x q he
  rw [he] at h
  exact (shutF_good x q).more h.1
theorem oneF_good {S : List UInt8 → Res (List Dat × Dat)} (hD : ∀ t, Good t (D t)) (hS : ∀ t, Good t (S t)) (r : List UInt8) : Good r (oneF D S r) := by
 have h2 := hD r
 unfold oneF
 split
 ·rename_i q hq; rw [hq] at h2; exact h2
 ·rename_i x q hq
  rw [hq] at h2
  exact ((hS q).map _).more h2.1
theorem seqH_good (hD : ∀ t, Good t (D t)) (hS : ∀ p a t, Good t (S p a t)) (pair any : Bool) (b : UInt8) (t : List UInt8) : Good (b :: t) (seqH D S pair any b t) := by
 have hc : t <:+ b :: t := List.suffix_cons b t
 unfold seqH
 split
 ·exact ⟨hc, by simp⟩
 split
 ·exact (pointF_good hD t).more hc
 ·exact oneF_good hD (hS pair true) _
theorem seqF_good (hD : ∀ t, Good t (D t)) (hS : ∀ p a t, Good t (S p a t)) (pair any : Bool) (r : List UInt8) : Good r (seqF D S pair any r) := by
 have h := skip_suf r false
 unfold seqF
 split
 ·exact List.nil_suffix
 ·rename_i b t he
  rw [he] at h
  exact (seqH_good hD hS pair any b t).more h
end
theorem both_good : ∀ f, (∀ t, Good t ((both f).1 t)) ∧ (∀ p a t, Good t ((both f).2 p a t))
 | 0 => ⟨fun _t => List.suffix_refl _, fun _ _ _t => List.suffix_refl _⟩
 | f + 1 => ⟨datF_good (both_good f).1 (both_good f).2, seqF_good (both_good f).1 (both_good f).2⟩
theorem D_good (r : List UInt8) : Good r (D r) := (both_good _).1 r
section
variable {D D' : List UInt8 → Res Dat} {S S' : Bool → Bool → List UInt8 → Res (List Dat × Dat)}
theorem datF_congr (r : List UInt8) (hD : ∀ t, t.length < r.length → D t = D' t) (hS : ∀ p a t, t.length < r.length → S p a t = S' p a t) : datF D S r = datF D' S' r := by
 have h := skip_le r false
 unfold datF
 split
 ·rfl
 ·rename_i b t he
  rw [he] at h
  simp only [List.length_cons] at h
  unfold headF
  rw [hD t (by omega), hS true false t (by omega)]
  have : hashF S t = hashF S' t := by
   unfold hashF
   split
   ·rfl
   ·rename_i c t'
    rw [hS false false t' (by simp only [List.length_cons] at h; omega)]
  rw [this]
theorem seqF_congr (pair any : Bool) (r : List UInt8) (hg : ∀ t, Good t (D t)) (hD : ∀ t, t.length ≤ r.length → D t = D' t) (hS : ∀ p a t, t.length < r.length → S p a t = S' p a t) : seqF D S pair any r = seqF D' S' pair any r := by
 have h := skip_le r false
 unfold seqF
 split
 ·rfl
 ·rename_i b t he
  rw [he] at h
  simp only [List.length_cons] at h
  have e1 : pointF D t = pointF D' t := by unfold pointF; rw [hD t (by omega)]
  have e2 : oneF D (S pair true) (b :: t) = oneF D' (S' pair true) (b :: t) := by
   unfold oneF
   rw [← hD (b :: t) (by simpa using h)]
   have h2 := hg (b :: t)
   cases hq : D (b :: t) with
   | bad q => rfl
   | ok x q =>
    rw [hq] at h2
    have := h2.2
    simp only [List.length_cons] at this
    simp only [hS pair true q (by omega)]
  unfold seqH
  rw [e1, e2]
end
theorem both_same : ∀ f g, (∀ r, 2 * r.length < f → 2 * r.length < g → (both f).1 r = (both g).1 r) ∧ (∀ p a r, 2 * r.length + 1 < f → 2 * r.length + 1 < g → (both f).2 p a r = (both g).2 p a r)
  | 0, _ => ⟨fun _ h => by omega, fun _ _ _ h => by omega⟩
  | _ + 1, 0 => ⟨fun _ _ h => by omega, fun _ _ _ _ h => by omega⟩
  | f + 1, g + 1 =>
    have ih := both_same f g
    ⟨fun r h1 h2 => datF_congr r (fun t ht => ih.1 t (by omega) (by omega)) (fun p a t ht => ih.2 p a t (by omega) (by omega)),
     fun p a r h1 h2 => seqF_congr p a r (both_good f).1 (fun t ht => ih.1 t (by omega) (by omega)) (fun p a t ht => ih.2 p a t (by omega) (by omega))⟩
theorem both_D {f : Nat} {r : List UInt8} (h : 2 * r.length < f) : (both f).1 r = D r := (both_same _ _).1 r h (by omega)
theorem both_S {f : Nat} {p a : Bool} {r : List UInt8} (h : 2 * r.length + 1 < f) : (both f).2 p a r = S p a r := (both_same _ _).2 p a r h (by omega)
theorem D_eq (r : List UInt8) : D r = datF D S r :=
 datF_congr (D := (both (2 * r.length)).1) (S := (both (2 * r.length)).2) r (fun _ _ => both_D (by omega)) (fun _ _ _ _ => both_S (by omega))
theorem S_eq (p a : Bool) (r : List UInt8) : S p a r = seqF D S p a r :=
 seqF_congr (D := (both (2 * r.length + 1)).1) (S := (both (2 * r.length + 1)).2) p a r (both_good _).1 (fun _ _ => both_D (by omega)) (fun _ _ _ _ => both_S (by omega))
def allG (A : List UInt8 → Res (List Dat)) (r : List UInt8) : Res (List Dat) :=
 match skip false r with
 | [] => .ok [] []
 | b :: t => match D (b :: t) with
  | .bad q => .bad q
  | .ok x q => if right x 0 = true then (A q).map (x :: ·) else .bad (b :: t)
theorem allG_congr {A A' : List UInt8 → Res (List Dat)} (r : List UInt8) (h : ∀ q, q.length < r.length → A q = A' q) : allG A r = allG A' r := by
 have h1 := skip_le r false
 unfold allG
 split
 ·rfl
 ·rename_i b t he
  rw [he] at h1
  have h2 := D_good (b :: t)
  cases hq : D (b :: t) with
  | bad q => rfl
  | ok x q =>
   rw [hq] at h2
   have := h2.2
   simp only [h q (by omega)]
theorem allF_same : ∀ f g r, r.length < f → r.length < g → allF f r = allF g r
 | 0, _, _, h, _ => by omega
 | _ + 1, 0, _, _, h => by omega
 | f + 1, g + 1, r, _, _ => allG_congr r fun q hq => allF_same f g q (by omega) (by omega)
theorem A_eq (r : List UInt8) : A r = allG A r :=
 allG_congr (A := allF r.length) r fun q hq => allF_same _ _ q (by omega) (by omega)
def AllGood {α : Type} (r : List UInt8) : Res α → Prop
 | .ok _ q => q = []
 | .bad q => q <:+ r
theorem allF_good : ∀ f r, AllGood r (allF f r)
 | 0, r => List.suffix_refl _
 | f + 1, r => by
  have h := skip_suf r false
  simp only [allF]
  split
  ·exact rfl
  ·rename_i b t he
   rw [he] at h
   have h2 := D_good (b :: t)
   split
   ·rename_i q hq; rw [hq] at h2; exact List.IsSuffix.trans h2 h
   ·rename_i x q hq
    rw [hq] at h2
    split
    ·have h3 := allF_good f q
     cases hf : allF f q with
     | ok l q' => rw [hf] at h3; exact h3
     | bad q' => rw [hf] at h3; exact List.IsSuffix.trans h3 (h2.1.trans h)
    ·exact h
theorem A_good (r : List UInt8) : AllGood r (A r) := allF_good _ r
end Rd
end
section
open Go.RowKit
def Env (w : World) : Prop := Lib.TabIs Tryz.prog w "internal/strconv.uint64pow10" .u64 Lib.pow10Tab
theorem var_lt {w : World} {cs : Array Value} {n : String} {g : Nat} (hg : Tryz.prog.globalNamed n = some g) (h : w.var? Tryz.prog n = some cs) : g < w.heap.size := by
 unfold World.var? at h
 rw [hg] at h
 simp only [Option.bind_some] at h
 split at h
 ·rename_i he
  exact (Array.getElem?_eq_some_iff.1 he).1
 ·cases h
theorem Env.below {w w' : World} (h : Env w) (hb : Below w.heap.size w w') : Env w' := by
 have hg : Tryz.prog.globalNamed "internal/strconv.uint64pow10" = some 5 := by kernel_rfl
 have hlt := var_lt hg h
 unfold Env Lib.TabIs World.var? at h ⊢
 rw [hg] at h ⊢
 simp only [Option.bind_some] at h ⊢
 rw [hb.block _ hlt]
 exact h
theorem Env.drewN {w : World} (h : Env w) (k : Nat) : Env (w.drewN k) := h
theorem Below.next {w w1 w2 : World} (h : Below w.heap.size w w1) (h' : Below w1.heap.size w1 w2) : Below w.heap.size w w2 :=
 h.trans (h'.mono h.size)
theorem Below.drewN {w w1 : World} {B : Nat} (h : Below B w w1) (k : Nat) : Below B w (w1.drewN k) := ⟨h.os, h.tape, h.output, h.size, h.block⟩
theorem Below.self (w : World) : Below w.heap.size w w := Below.refl _ _
theorem Below.selfN (w : World) (k : Nat) : Below w.heap.size w (w.drewN k) := ⟨rfl, rfl, rfl, Nat.le_refl _, fun _ _ => rfl⟩
theorem Below.ofN {w w1 : World} {k : Nat} (h : Below (w.drewN k).heap.size (w.drewN k) w1) : Below w.heap.size w w1 := ⟨h.os, h.tape, h.output, h.size, h.block⟩
theorem str_app (a b : List UInt8) : ((⟨a.toArray⟩ : ByteArray) ++ (⟨b.toArray⟩ : ByteArray)) = ⟨(a ++ b).toArray⟩ := by
 apply ByteArray.ext
 rw [ByteArray.data_append]
 simp
theorem itoa_any (n : Int) (h0 : -9223372036854775808 ≤ n) (h1 : n ≤ 9223372036854775807) (w : World) (hE : Env w) :
  Calls Tryz.prog 132 #[.int .i64 n] w fun e w' => e = .returned (.string ⟨(Lib.itoa n).toArray⟩) ∧ Below w.heap.size w w' := by
 refine (Tryz.strconv_Itoa n h0 h1 w hE).mono ?_
 rintro e w' ⟨rfl, k, os, rfl⟩
 exact ⟨rfl, Lib.below_grow _ _ (Nat.le_refl _) _ _⟩
theorem trim_any (s cutset : ByteArray) (hs : s.size ≤ 9223372036854775807) (hcs : cutset.size < 4294967281) (ha : cutset.data.toList.all (fun b => decide (b.toNat < 128)) = true) (w : World) :
  Calls Tryz.prog 49 #[.string s, .string cutset] w fun e w' => e = .returned (.string ⟨(Lib.trimS s.data.toList cutset.data.toList).toArray⟩) ∧ Below w.heap.size w w' :=
 Any.strings_Trim_laid Tryz.lays160 (by kernel_rfl) s cutset w hs hcs (ascii_of_all ha)
theorem atoi_any (s : ByteArray) (n : Int) (hl : s.size ≤ 18) (h : Lib.atoi s.data.toList = some n) (w : World) :
  Calls Tryz.prog 139 #[.string s] w fun e w' => e = .returned (.tuple #[.int .i64 n, .nilIface]) ∧ Below w.heap.size w w' := by
 refine (Tryz.strconv_Atoi s n hl h w).mono ?_
 rintro e w' ⟨rfl, t, rfl⟩
 exact ⟨rfl, rfl, rfl, rfl, by rw [Lib.bytesWorld_size]; omega, fun k hk => Lib.bytesWorld_at_old _ _ _ _ hk⟩
end
section
namespace Rd
open Go Dat
theorem map_ok {α β : Type} {f : α → β} {x : Res α} {y : β} {q : List UInt8} (h : x.map f = .ok y q) : ∃ z, x = .ok z q ∧ f z = y := by
 cases x with
 | ok z r => simp only [Res.map, Res.ok.injEq] at h; exact ⟨z, by rw [h.2], h.1⟩
 | bad r => cases h
theorem map_bad {α β : Type} {f : α → β} {x : Res α} {q : List UInt8} (h : x.map f = .bad q) : x = .bad q := by
 cases x with
 | ok z r => cases h
 | bad r => simp only [Res.map, Res.bad.injEq] at h; rw [h]
theorem skip_app : ∀ (u : List UInt8) (m : Bool), (∃ b t, skip m u = b :: t ∧ ∀ v, skip m (u ++ v) = b :: (t ++ v)) ∨ (skip m u = [] ∧ ∃ m', ∀ v, skip m (u ++ v) = skip m' v)
 | [], m => .inr ⟨by cases m <;> rfl, m, fun v => rfl⟩
 | c :: u, true => by
  by_cases h : c = 10
  ·have e : ∀ v, skip true (c :: v) = skip false v := fun v => by simp [skip, h]
   simp only [List.cons_append, e]
   exact skip_app u false
  ·have e : ∀ v, skip true (c :: v) = skip true v := fun v => by simp [skip, h]
   simp only [List.cons_append, e]
   exact skip_app u true
 | c :: u, false => by
  by_cases h : c = 59
  ·have e : ∀ v, skip false (c :: v) = skip true v := fun v => by simp [skip, h]
   simp only [List.cons_append, e]
   exact skip_app u true
  by_cases h2 : c = 32 ∨ c = 10 ∨ c = 9
  ·have e : ∀ v, skip false (c :: v) = skip false v := fun v => by simp only [skip]; rw [if_neg h, if_pos h2]
   simp only [List.cons_append, e]
   exact skip_app u false
  ·have e : ∀ v, skip false (c :: v) = c :: v := fun v => by simp only [skip]; rw [if_neg h, if_neg h2]
   simp only [List.cons_append, e]
   exact .inl ⟨c, u, rfl, fun v => rfl⟩
theorem dw_cut {p : UInt8 → Bool} : ∀ {u v b : List UInt8}, (u ++ v).dropWhile p = b ++ v → u.dropWhile p = b ∧ (u ++ v).takeWhile p = u.takeWhile p
 | [], v, b, h => by
  have hl := (List.dropWhile_suffix p (l := v)).length_le
  rw [List.nil_append] at h
  have := congrArg List.length h
  simp only [List.length_append] at this
  have hb : b = [] := List.length_eq_zero_iff.1 (by omega)
  subst hb
  refine ⟨rfl, ?_⟩
  rw [List.nil_append] at h ⊢
  cases v with
  | nil => rfl
  | cons c v =>
   rw [List.takeWhile_cons]
   cases hc : p c with
   | false => rfl
   | true =>
    rw [List.dropWhile_cons_of_pos hc] at h
    have h2 := (List.dropWhile_suffix p (l := v)).length_le
    have := congrArg List.length h
    simp only [List.length_cons] at this
    omega
 | c :: u, v, b, h => by
  rw [List.cons_append] at h ⊢
  cases hc : p c with
  | false =>
   rw [List.dropWhile_cons_of_neg (by simp [hc])] at h ⊢
   rw [List.takeWhile_cons_of_neg (by simp [hc]), List.takeWhile_cons_of_neg (by simp [hc])]
   rw [← List.cons_append] at h
   exact ⟨List.append_cancel_right h, rfl⟩
  | true =>
   rw [List.dropWhile_cons_of_pos hc] at h ⊢
   rw [List.takeWhile_cons_of_pos hc, List.takeWhile_cons_of_pos hc]
   have := dw_cut h
   exact ⟨this.1, by rw [this.2]⟩
theorem tw_ext {p : UInt8 → Bool} {c : UInt8} (hc : p c = false) (v : List UInt8) : ∀ u : List UInt8, (u ++ c :: v).dropWhile p = u.dropWhile p ++ c :: v ∧ (u ++ c :: v).takeWhile p = u.takeWhile p
 | [] => by simp [hc]
 | b :: u => by
  have := tw_ext hc v u
  rw [List.cons_append, List.dropWhile_cons, List.dropWhile_cons, List.takeWhile_cons, List.takeWhile_cons]
  cases p b with
  | true => exact ⟨this.1, by simp [this.2]⟩
  | false => exact ⟨rfl, rfl⟩
def Cut {α : Type} (F : List UInt8 → Res α) : Prop := ∀ u v x b, F (u ++ v) = .ok x (b ++ v) → F u = .ok x b
def CutB {α : Type} (F : List UInt8 → Res α) : Prop := ∀ u v, F (u ++ v) = .bad v → F u = .bad []
def Ext {α : Type} (F : List UInt8 → Res α) : Prop := ∀ u v x b, F u = .ok x b → F (u ++ 10 :: v) = .ok x (b ++ 10 :: v)
def ExtB {α : Type} (F : List UInt8 → Res α) : Prop := ∀ u q, F u = .bad q → ∃ q', F (u ++ [10, 59, 34]) = .bad q'
theorem len_cut {a v : List UInt8} {c : UInt8} (h : c :: (a ++ v) = v) : False := by
 have := congrArg List.length h
 simp only [List.length_cons, List.length_append] at this
 omega
theorem Good.ok_lt {α : Type} {r v b : List UInt8} {x : α} (h : Good r (.ok x (b ++ v))) (hr : r.length ≤ v.length) : False := by
 have := h.2
 simp only [List.length_append] at this
 omega
theorem word_cut (c : UInt8) {t v b : List UInt8} {x : Dat} (h : word (c :: (t ++ v)) = .ok x (b ++ v)) : word (c :: t) = .ok x b := by
 unfold word at h ⊢
 rw [← List.cons_append] at h
 have key : ((c :: t) ++ v).dropWhile mark = b ++ v → (c :: t).dropWhile mark = b ∧ ((c :: t) ++ v).takeWhile mark = (c :: t).takeWhile mark := dw_cut
 split at h
 ·rename_i hp
  simp only [Res.ok.injEq] at h
  obtain ⟨h1, h2⟩ := key h.2
  rw [h2] at hp h
  rw [if_pos hp, h1, h.1]
 ·rename_i hp
  split at h
  ·cases h
  ·rename_i hn
   simp only [Res.ok.injEq] at h
   obtain ⟨h1, h2⟩ := key h.2
   rw [h2] at hp h hn
   rw [if_neg hp, if_neg hn, h1, h.1]
theorem word_bad {r q : List UInt8} (h : word r = .bad q) : q = r := by
 unfold word at h
 split at h
 ·cases h
 split at h
 ·simp only [Res.bad.injEq] at h; exact h.symm
 ·cases h
theorem word_ext {r v : List UInt8} : (∀ x b, word r = .ok x b → word (r ++ 10 :: v) = .ok x (b ++ 10 :: v)) ∧ (∀ q, word r = .bad q → word (r ++ 10 :: v) = .bad (r ++ 10 :: v)) := by
 obtain ⟨h1, h2⟩ := tw_ext (p := mark) (c := 10) (by decide) v r
 unfold word
 rw [h1, h2]
 constructor
 ·intro x b h
  split at h
  ·rename_i hp; rw [if_pos hp]; simp only [Res.ok.injEq] at h ⊢; exact ⟨h.1, by rw [h.2]⟩
  ·rename_i hp
   rw [if_neg hp]
   split at h
   ·cases h
   ·rename_i hn; rw [if_neg hn]; simp only [Res.ok.injEq] at h ⊢; exact ⟨h.1, by rw [h.2]⟩
 ·intro q h
  split at h
  ·cases h
  ·rename_i hp
   rw [if_neg hp]
   split at h
   ·rename_i hn; rw [if_pos hn]
   ·cases h
theorem str_cut : Cut str := by
 intro t v x b h
 unfold str at h ⊢
 cases hd : (t ++ v).dropWhile strByte with
 | nil => rw [hd] at h; cases h
 | cons c r =>
  rw [hd] at h
  simp only at h
  split at h
  ·rename_i hc
   simp only [Res.ok.injEq] at h
   obtain ⟨h1, h2⟩ := dw_cut (p := strByte) (u := t) (v := v) (b := c :: b) (by rw [hd, h.2]; rfl)
   rw [h1, ← h2]
   simp only
   rw [if_pos hc, h.1]
  ·cases h
theorem str_cutB : CutB str := by
 intro t v h
 unfold str at h ⊢
 cases hd : (t ++ v).dropWhile strByte with
 | nil =>
  rw [hd] at h
  simp only [Res.bad.injEq] at h
  subst h
  rw [List.append_nil] at hd
  rw [hd]
 | cons c r =>
  rw [hd] at h
  simp only at h
  split at h
  ·cases h
  ·simp only [Res.bad.injEq] at h
   obtain ⟨h1, _⟩ := dw_cut (p := strByte) (u := t) (v := v) (b := []) (by rw [hd, h]; rfl)
   rw [h1]
theorem str_ext {t v : List UInt8} : (∀ x b, str t = .ok x b → str (t ++ 10 :: v) = .ok x (b ++ 10 :: v)) ∧ (∀ q, str t = .bad q → ∃ q', str (t ++ 10 :: v) = .bad q') := by
 obtain ⟨h1, h2⟩ := tw_ext (p := strByte) (c := 10) (by decide) v t
 unfold str
 rw [h1, h2]
 cases hd : t.dropWhile strByte with
 | nil => exact ⟨fun x b h => by simp at h, fun q h => ⟨10 :: v, by simp⟩⟩
 | cons c r =>
  simp only [List.cons_append]
  constructor
  ·intro x b h
   split at h
   ·rename_i hc; rw [if_pos hc]; simp only [Res.ok.injEq] at h ⊢; exact ⟨h.1, by rw [h.2]⟩
   ·cases h
  ·intro q h
   split at h
   ·cases h
   ·rename_i hc; exact ⟨_, by rw [if_neg hc]⟩
section
variable {D : List UInt8 → Res Dat} {S : Bool → Bool → List UInt8 → Res (List Dat × Dat)}
theorem hashF_cut (hS : ∀ p a, Cut (S p a)) {v b : List UInt8} {x : Dat} (hg : ∀ p a t, Good t (S p a t)) : ∀ t : List UInt8, hashF S (t ++ v) = .ok x (b ++ v) → hashF S t = .ok x b
 | [], h => by
  have := hashF_good hg v
  rw [List.nil_append] at h
  rw [h] at this
  exact (this.ok_lt (Nat.le_refl _)).elim
 | c :: t, h => by
  simp only [hashF, List.cons_append] at h ⊢
  repeat' split at h
  all_goals first
   | (rename_i h1; rw [if_pos h1]; simp only [Res.ok.injEq, List.append_cancel_right_eq] at h ⊢; exact h)
   | skip
  ·rename_i h1 h2; rw [if_neg h1, if_pos h2]; simp only [Res.ok.injEq, List.append_cancel_right_eq] at h ⊢; exact h
  ·rename_i h1 h2 h3; rw [if_neg h1, if_neg h2, if_pos h3]; simp only [Res.ok.injEq, List.append_cancel_right_eq] at h ⊢; exact h
  ·rename_i h1 h2 h3 h4
   rw [if_neg h1, if_neg h2, if_neg h3, if_pos h4]
   obtain ⟨z, hz, rfl⟩ := map_ok h
   rw [hS _ _ _ _ _ _ hz]; rfl
  ·cases h
theorem headF_cut (hD : Cut D) (hS : ∀ p a, Cut (S p a)) (gS : ∀ p a t, Good t (S p a t)) (c : UInt8) {t v b : List UInt8} {x : Dat} (h : headF D S c (t ++ v) = .ok x (b ++ v)) : headF D S c t = .ok x b := by
 unfold headF at h ⊢
 by_cases h1 : mark c = true
 ·rw [if_pos h1] at h ⊢; exact word_cut c h
 rw [if_neg h1] at h ⊢
 by_cases h2 : c = 34
 ·rw [if_pos h2] at h ⊢; exact str_cut _ _ _ _ h
 rw [if_neg h2] at h ⊢
 by_cases h3 : c = 39
 ·rw [if_pos h3] at h ⊢
  obtain ⟨z, hz, rfl⟩ := map_ok h
  rw [hD _ _ _ _ hz]; rfl
 rw [if_neg h3] at h ⊢
 by_cases h4 : c = 35
 ·rw [if_pos h4] at h ⊢; exact hashF_cut hS gS t h
 rw [if_neg h4] at h ⊢
 by_cases h5 : c = 40
 ·rw [if_pos h5] at h ⊢
  obtain ⟨z, hz, rfl⟩ := map_ok h
  rw [hS _ _ _ _ _ _ hz]; rfl
 rw [if_neg h5] at h
 cases h
theorem datF_cut (hD : Cut D) (hS : ∀ p a, Cut (S p a)) (gD : ∀ t, Good t (D t)) (gS : ∀ p a t, Good t (S p a t)) : Cut (datF D S) := by
 intro u v x b h
 unfold datF at h ⊢
 rcases skip_app u false with ⟨c, t, h1, h2⟩ | ⟨_, m', h2⟩
 ·rw [h2] at h; rw [h1]
  exact headF_cut hD hS gS c h
 ·rw [h2] at h
  have hl := skip_le v m'
  split at h
  ·cases h
  ·rename_i c t he
   rw [he] at hl
   have := headF_good gD gS c t
   rw [h] at this
   exact (this.ok_lt hl).elim
theorem shutF_cut (x : Dat) : Cut (shutF x) := by
 intro u v y b h
 unfold shutF at h ⊢
 rcases skip_app u false with ⟨c, t, h1, h2⟩ | ⟨_, m', h2⟩
 ·rw [h2] at h; rw [h1]
  simp only at h ⊢
  split at h
  ·rename_i hc
   rw [if_pos hc]
   simp only [Res.ok.injEq, List.append_cancel_right_eq] at h ⊢; exact h
  ·cases h
 ·rw [h2] at h
  have hl := skip_le v m'
  split at h
  ·cases h
  ·rename_i c t he
   rw [he] at hl
   split at h
   ·simp only [Res.ok.injEq] at h
    have := h.2
    subst this
    simp only [List.length_cons, List.length_append] at hl
    omega
   ·cases h
theorem suf_split {b v q : List UInt8} (h : b ++ v <:+ q) : ∃ q', q = q' ++ v := by
 obtain ⟨a, ha⟩ := h
 exact ⟨a ++ b, by rw [← ha, List.append_assoc]⟩
theorem pointF_cut (hD : Cut D) : Cut (pointF D) := by
 intro u v x b h
 unfold pointF at h ⊢
 cases hd : D (u ++ v) with
 | bad q => rw [hd] at h; cases h
 | ok y q =>
  rw [hd] at h
  simp only at h
  have g := shutF_good y q
  rw [h] at g
  obtain ⟨q', rfl⟩ := suf_split g.1
  rw [hD _ _ _ _ hd]
  exact shutF_cut y _ _ _ _ h
theorem oneF_cut {S : List UInt8 → Res (List Dat × Dat)} (hD : Cut D) (hS : Cut S) (gS : ∀ t, Good t (S t)) : Cut (oneF D S) := by
 intro u v x b h
 unfold oneF at h ⊢
 cases hd : D (u ++ v) with
 | bad q => rw [hd] at h; cases h
 | ok y q =>
  rw [hd] at h
  simp only at h
  obtain ⟨z, hz, rfl⟩ := map_ok h
  have g := gS q
  rw [hz] at g
  obtain ⟨q', rfl⟩ := suf_split g.1
  rw [hD _ _ _ _ hd]
  simp only
  rw [hS _ _ _ _ hz]; rfl
theorem seqH_cut (hD : Cut D) (hS : ∀ p a, Cut (S p a)) (gS : ∀ p a t, Good t (S p a t)) (pair any : Bool) (c : UInt8) {t v b : List UInt8} {x : List Dat × Dat} (h : seqH D S pair any c (t ++ v) = .ok x (b ++ v)) : seqH D S pair any c t = .ok x b := by
 unfold seqH at h ⊢
 by_cases hc : c = 41
 ·rw [if_pos hc] at h ⊢
  simp only [Res.ok.injEq, List.append_cancel_right_eq] at h ⊢; exact h
 rw [if_neg hc] at h ⊢
 by_cases hc2 : c = 46 ∧ pair = true ∧ any = true
 ·rw [if_pos hc2] at h ⊢
  exact pointF_cut hD _ _ _ _ h
 rw [if_neg hc2] at h ⊢
 rw [← List.cons_append] at h
 exact oneF_cut hD (hS pair true) (gS pair true) _ _ _ _ h
theorem seqF_cut (hD : Cut D) (hS : ∀ p a, Cut (S p a)) (gD : ∀ t, Good t (D t)) (gS : ∀ p a t, Good t (S p a t)) (pair any : Bool) : Cut (seqF D S pair any) := by
 intro u v x b h
 unfold seqF at h ⊢
 rcases skip_app u false with ⟨c, t, h1, h2⟩ | ⟨_, m', h2⟩
 ·rw [h2] at h; rw [h1]
  exact seqH_cut hD hS gS pair any c h
 ·rw [h2] at h
  have hl := skip_le v m'
  split at h
  ·cases h
  ·rename_i c t he
   rw [he] at hl
   have := seqH_good gD gS pair any c t
   rw [h] at this
   exact (this.ok_lt hl).elim
theorem hashF_cutB (hS : ∀ p a, CutB (S p a)) {v : List UInt8} : ∀ t : List UInt8, hashF S (t ++ v) = .bad v → hashF S t = .bad []
 | [], _ => rfl
 | c :: t, h => by
  simp only [hashF, List.cons_append] at h ⊢
  by_cases h1 : c = 116
  ·rw [if_pos h1] at h; cases h
  rw [if_neg h1] at h ⊢
  by_cases h2 : c = 102
  ·rw [if_pos h2] at h; cases h
  rw [if_neg h2] at h ⊢
  by_cases h3 : c = 118
  ·rw [if_pos h3] at h; cases h
  rw [if_neg h3] at h ⊢
  by_cases h4 : c = 40
  ·rw [if_pos h4] at h ⊢
   rw [hS _ _ _ _ (map_bad h)]; rfl
  rw [if_neg h4] at h
  simp only [Res.bad.injEq] at h
  exact (len_cut h).elim
theorem headF_cutB (hD : CutB D) (hS : ∀ p a, CutB (S p a)) (c : UInt8) {t v : List UInt8} (h : headF D S c (t ++ v) = .bad v) : headF D S c t = .bad [] := by
 unfold headF at h ⊢
 by_cases h1 : mark c = true
 ·rw [if_pos h1] at h
  exact (len_cut (word_bad h).symm).elim
 rw [if_neg h1] at h ⊢
 by_cases h2 : c = 34
 ·rw [if_pos h2] at h ⊢; exact str_cutB _ _ h
 rw [if_neg h2] at h ⊢
 by_cases h3 : c = 39
 ·rw [if_pos h3] at h ⊢
  rw [hD _ _ (map_bad h)]; rfl
 rw [if_neg h3] at h ⊢
 by_cases h4 : c = 35
 ·rw [if_pos h4] at h ⊢; exact hashF_cutB hS t h
 rw [if_neg h4] at h ⊢
 by_cases h5 : c = 40
 ·rw [if_pos h5] at h ⊢
  rw [hS _ _ _ _ (map_bad h)]; rfl
 rw [if_neg h5] at h
 simp only [Res.bad.injEq] at h
 exact (len_cut h).elim
theorem datF_cutB (hD : CutB D) (hS : ∀ p a, CutB (S p a)) : CutB (datF D S) := by
 intro u v h
 unfold datF at h ⊢
 rcases skip_app u false with ⟨c, t, h1, h2⟩ | ⟨h1, m', h2⟩
 ·rw [h2] at h; rw [h1]
  exact headF_cutB hD hS c h
 ·rw [h1]
theorem shutF_cutB (x : Dat) : CutB (shutF x) := by
 intro u v h
 unfold shutF at h ⊢
 rcases skip_app u false with ⟨c, t, h1, h2⟩ | ⟨h1, m', h2⟩
 ·rw [h2] at h; rw [h1]
  simp only at h ⊢
  split at h
  ·cases h
  ·simp only [Res.bad.injEq] at h
   exact (len_cut h).elim
 ·rw [h1]
theorem pointF_cutB (hD : CutB D) (hC : Cut D) : CutB (pointF D) := by
 intro u v h
 unfold pointF at h ⊢
 cases hd : D (u ++ v) with
 | bad q =>
  rw [hd] at h
  simp only [Res.bad.injEq] at h
  subst h
  rw [hD _ _ hd]
 | ok y q =>
  rw [hd] at h
  simp only at h
  have g := shutF_good y q
  rw [h] at g
  obtain ⟨q', rfl⟩ := suf_split (b := []) g
  rw [hC _ _ _ _ hd]
  exact shutF_cutB y _ _ h
theorem oneF_cutB {S : List UInt8 → Res (List Dat × Dat)} (hD : CutB D) (hC : Cut D) (hS : CutB S) (gS : ∀ t, Good t (S t)) : CutB (oneF D S) := by
 intro u v h
 unfold oneF at h ⊢
 cases hd : D (u ++ v) with
 | bad q =>
  rw [hd] at h
  simp only [Res.bad.injEq] at h
  subst h
  rw [hD _ _ hd]
 | ok y q =>
  rw [hd] at h
  simp only at h
  have hz := map_bad h
  have g := gS q
  rw [hz] at g
  obtain ⟨q', rfl⟩ := suf_split (b := []) g
  rw [hC _ _ _ _ hd]
  simp only
  rw [hS _ _ hz]; rfl
theorem seqH_cutB (hD : CutB D) (hC : Cut D) (hS : ∀ p a, CutB (S p a)) (gS : ∀ p a t, Good t (S p a t)) (pair any : Bool) (c : UInt8) {t v : List UInt8} (h : seqH D S pair any c (t ++ v) = .bad v) : seqH D S pair any c t = .bad [] := by
 unfold seqH at h ⊢
 by_cases hc : c = 41
 ·rw [if_pos hc] at h; cases h
 rw [if_neg hc] at h ⊢
 by_cases hc2 : c = 46 ∧ pair = true ∧ any = true
 ·rw [if_pos hc2] at h ⊢
  exact pointF_cutB hD hC _ _ h
 rw [if_neg hc2] at h ⊢
 rw [← List.cons_append] at h
 exact oneF_cutB hD hC (hS pair true) (gS pair true) _ _ h
theorem seqF_cutB (hD : CutB D) (hC : Cut D) (hS : ∀ p a, CutB (S p a)) (gS : ∀ p a t, Good t (S p a t)) (pair any : Bool) : CutB (seqF D S pair any) := by
 intro u v h
 unfold seqF at h ⊢
 rcases skip_app u false with ⟨c, t, h1, h2⟩ | ⟨h1, m', h2⟩
 ·rw [h2] at h; rw [h1]
  exact seqH_cutB hD hC hS gS pair any c h
 ·rw [h1]
theorem hashF_ext (hS : ∀ p a, Ext (S p a)) (v : List UInt8) : ∀ (t : List UInt8) (x : Dat) (b : List UInt8), hashF S t = .ok x b → hashF S (t ++ 10 :: v) = .ok x (b ++ 10 :: v)
 | [], _, _, h => by cases h
 | c :: t, x, b, h => by
  simp only [hashF, List.cons_append] at h ⊢
  by_cases h1 : c = 116
  ·rw [if_pos h1] at h ⊢; simp only [Res.ok.injEq] at h ⊢; exact ⟨h.1, by rw [h.2]⟩
  rw [if_neg h1] at h ⊢
  by_cases h2 : c = 102
  ·rw [if_pos h2] at h ⊢; simp only [Res.ok.injEq] at h ⊢; exact ⟨h.1, by rw [h.2]⟩
  rw [if_neg h2] at h ⊢
  by_cases h3 : c = 118
  ·rw [if_pos h3] at h ⊢; simp only [Res.ok.injEq] at h ⊢; exact ⟨h.1, by rw [h.2]⟩
  rw [if_neg h3] at h ⊢
  by_cases h4 : c = 40
  ·rw [if_pos h4] at h ⊢
   obtain ⟨z, hz, rfl⟩ := map_ok h
   rw [hS _ _ _ _ _ _ hz]; rfl
  rw [if_neg h4] at h
  cases h
theorem headF_ext (hD : Ext D) (hS : ∀ p a, Ext (S p a)) (c : UInt8) (v : List UInt8) {t b : List UInt8} {x : Dat} (h : headF D S c t = .ok x b) : headF D S c (t ++ 10 :: v) = .ok x (b ++ 10 :: v) := by
 unfold headF at h ⊢
 by_cases h1 : mark c = true
 ·rw [if_pos h1] at h ⊢
  rw [← List.cons_append]
  exact word_ext.1 _ _ h
 rw [if_neg h1] at h ⊢
 by_cases h2 : c = 34
 ·rw [if_pos h2] at h ⊢; exact str_ext.1 _ _ h
 rw [if_neg h2] at h ⊢
 by_cases h3 : c = 39
 ·rw [if_pos h3] at h ⊢
  obtain ⟨z, hz, rfl⟩ := map_ok h
  rw [hD _ _ _ _ hz]; rfl
 rw [if_neg h3] at h ⊢
 by_cases h4 : c = 35
 ·rw [if_pos h4] at h ⊢; exact hashF_ext hS v t _ _ h
 rw [if_neg h4] at h ⊢
 by_cases h5 : c = 40
 ·rw [if_pos h5] at h ⊢
  obtain ⟨z, hz, rfl⟩ := map_ok h
  rw [hS _ _ _ _ _ _ hz]; rfl
 rw [if_neg h5] at h
 cases h
theorem datF_ext (hD : Ext D) (hS : ∀ p a, Ext (S p a)) : Ext (datF D S) := by
 intro u v x b h
 unfold datF at h ⊢
 rcases skip_app u false with ⟨c, t, h1, h2⟩ | ⟨h1, m', h2⟩
 ·rw [h1] at h; rw [h2]
  exact headF_ext hD hS c v h
 ·rw [h1] at h; cases h
theorem shutF_ext (x : Dat) : Ext (shutF x) := by
 intro u v y b h
 unfold shutF at h ⊢
 rcases skip_app u false with ⟨c, t, h1, h2⟩ | ⟨h1, m', h2⟩
 ·rw [h1] at h; rw [h2]
  simp only at h ⊢
  split at h
  ·rename_i hc; rw [if_pos hc]; simp only [Res.ok.injEq] at h ⊢; exact ⟨h.1, by rw [h.2]⟩
  ·cases h
 ·rw [h1] at h; cases h
theorem pointF_ext (hD : Ext D) : Ext (pointF D) := by
 intro u v x b h
 unfold pointF at h ⊢
 cases hd : D u with
 | bad q => rw [hd] at h; cases h
 | ok y q =>
  rw [hd] at h
  rw [hD _ _ _ _ hd]
  exact shutF_ext y _ _ _ _ h
theorem oneF_ext {S : List UInt8 → Res (List Dat × Dat)} (hD : Ext D) (hS : Ext S) : Ext (oneF D S) := by
 intro u v x b h
 unfold oneF at h ⊢
 cases hd : D u with
 | bad q => rw [hd] at h; cases h
 | ok y q =>
  rw [hd] at h
  simp only at h
  obtain ⟨z, hz, rfl⟩ := map_ok h
  rw [hD _ _ _ _ hd]
  simp only
  rw [hS _ _ _ _ hz]; rfl
theorem seqF_ext (hD : Ext D) (hS : ∀ p a, Ext (S p a)) (pair any : Bool) : Ext (seqF D S pair any) := by
 intro u v x b h
 unfold seqF at h ⊢
 rcases skip_app u false with ⟨c, t, h1, h2⟩ | ⟨h1, m', h2⟩
 ·rw [h1] at h; rw [h2]
  simp only at h ⊢
  unfold seqH at h ⊢
  by_cases hc : c = 41
  ·rw [if_pos hc] at h ⊢; simp only [Res.ok.injEq] at h ⊢; exact ⟨h.1, by rw [h.2]⟩
  rw [if_neg hc] at h ⊢
  by_cases hc2 : c = 46 ∧ pair = true ∧ any = true
  ·rw [if_pos hc2] at h ⊢
   exact pointF_ext hD _ _ _ _ h
  rw [if_neg hc2] at h ⊢
  rw [← List.cons_append]
  exact oneF_ext hD (hS pair true) _ _ _ _ h
 ·rw [h1] at h; cases h
theorem skip_v0 (m : Bool) : skip m [10, 59, 34] = [] := by cases m <;> rfl
theorem hashF_extB (hS : ∀ p a, ExtB (S p a)) : ExtB (hashF S) := by
 intro t q h
 cases t with
 | nil => exact ⟨[10, 59, 34], rfl⟩
 | cons c t =>
  simp only [hashF, List.cons_append] at h ⊢
  by_cases h1 : c = 116
  ·rw [if_pos h1] at h; cases h
  rw [if_neg h1] at h ⊢
  by_cases h2 : c = 102
  ·rw [if_pos h2] at h; cases h
  rw [if_neg h2] at h ⊢
  by_cases h3 : c = 118
  ·rw [if_pos h3] at h; cases h
  rw [if_neg h3] at h ⊢
  by_cases h4 : c = 40
  ·rw [if_pos h4] at h ⊢
   obtain ⟨q', hq⟩ := hS _ _ _ _ (map_bad h)
   rw [hq]; exact ⟨q', rfl⟩
  rw [if_neg h4]
  exact ⟨_, rfl⟩
theorem headF_extB (hD : ExtB D) (hS : ∀ p a, ExtB (S p a)) (c : UInt8) {t q : List UInt8} (h : headF D S c t = .bad q) : ∃ q', headF D S c (t ++ [10, 59, 34]) = .bad q' := by
 unfold headF at h ⊢
 by_cases h1 : mark c = true
 ·rw [if_pos h1] at h ⊢
  rw [← List.cons_append]
  exact ⟨_, word_ext.2 _ h⟩
 rw [if_neg h1] at h ⊢
 by_cases h2 : c = 34
 ·rw [if_pos h2] at h ⊢; exact str_ext.2 _ h
 rw [if_neg h2] at h ⊢
 by_cases h3 : c = 39
 ·rw [if_pos h3] at h ⊢
  obtain ⟨q', hq⟩ := hD _ _ (map_bad h)
  rw [hq]; exact ⟨q', rfl⟩
 rw [if_neg h3] at h ⊢
 by_cases h4 : c = 35
 ·rw [if_pos h4] at h ⊢; exact hashF_extB hS _ _ h
 rw [if_neg h4] at h ⊢
 by_cases h5 : c = 40
 ·rw [if_pos h5] at h ⊢
  obtain ⟨q', hq⟩ := hS _ _ _ _ (map_bad h)
  rw [hq]; exact ⟨q', rfl⟩
 rw [if_neg h5]
 exact ⟨_, rfl⟩
theorem datF_extB (hD : ExtB D) (hS : ∀ p a, ExtB (S p a)) : ExtB (datF D S) := by
 intro u q h
 unfold datF at h ⊢
 rcases skip_app u false with ⟨c, t, h1, h2⟩ | ⟨h1, m', h2⟩
 ·rw [h1] at h; rw [h2]
  exact headF_extB hD hS c h
 ·rw [h2, skip_v0]; exact ⟨[], rfl⟩
theorem shutF_extB (x : Dat) : ExtB (shutF x) := by
 intro u q h
 unfold shutF at h ⊢
 rcases skip_app u false with ⟨c, t, h1, h2⟩ | ⟨h1, m', h2⟩
 ·rw [h1] at h; rw [h2]
  simp only at h ⊢
  split at h
  ·cases h
  ·rename_i hc; rw [if_neg hc]; exact ⟨_, rfl⟩
 ·rw [h2, skip_v0]; exact ⟨[], rfl⟩
theorem pointF_extB (hD : ExtB D) (hC : Ext D) : ExtB (pointF D) := by
 intro u q h
 unfold pointF at h ⊢
 cases hd : D u with
 | bad q0 =>
  obtain ⟨q', hq⟩ := hD _ _ hd
  rw [hq]; exact ⟨q', rfl⟩
 | ok y q0 =>
  rw [hd] at h
  rw [hC _ _ _ _ hd]
  exact shutF_extB y _ _ h
theorem oneF_extB {S : List UInt8 → Res (List Dat × Dat)} (hD : ExtB D) (hC : Ext D) (hS : ExtB S) : ExtB (oneF D S) := by
 intro u q h
 unfold oneF at h ⊢
 cases hd : D u with
 | bad q0 =>
  obtain ⟨q', hq⟩ := hD _ _ hd
  rw [hq]; exact ⟨q', rfl⟩
 | ok y q0 =>
  rw [hd] at h
  simp only at h
  rw [hC _ _ _ _ hd]
  obtain ⟨q', hq⟩ := hS _ _ (map_bad h)
  simp only
  rw [hq]; exact ⟨q', rfl⟩
theorem seqF_extB (hD : ExtB D) (hC : Ext D) (hS : ∀ p a, ExtB (S p a)) (pair any : Bool) : ExtB (seqF D S pair any) := by
 intro u q h
 unfold seqF at h ⊢
 rcases skip_app u false with ⟨c, t, h1, h2⟩ | ⟨h1, m', h2⟩
 ·rw [h1] at h; rw [h2]
  simp only at h ⊢
  unfold seqH at h ⊢
  by_cases hc : c = 41
  ·rw [if_pos hc] at h; cases h
  rw [if_neg hc] at h ⊢
  by_cases hc2 : c = 46 ∧ pair = true ∧ any = true
  ·rw [if_pos hc2] at h ⊢
   exact pointF_extB hD hC _ _ h
  rw [if_neg hc2] at h ⊢
  rw [← List.cons_append]
  exact oneF_extB hD hC (hS pair true) _ _ h
 ·rw [h2, skip_v0]; exact ⟨[], rfl⟩
end
theorem both_cut : ∀ f, Cut (both f).1 ∧ ∀ p a, Cut ((both f).2 p a)
 | 0 => ⟨fun _ _ _ _ h => (by cases h), fun _ _ _ _ _ _ h => (by cases h)⟩
 | f + 1 => ⟨datF_cut (both_cut f).1 (both_cut f).2 (both_good f).1 (both_good f).2, seqF_cut (both_cut f).1 (both_cut f).2 (both_good f).1 (both_good f).2⟩
theorem app_self {u v : List UInt8} (h : u ++ v = v) : u = [] := by
 have := congrArg List.length h
 simp only [List.length_append] at this
 exact List.length_eq_zero_iff.1 (by omega)
theorem both_cutB : ∀ f, CutB (both f).1 ∧ ∀ p a, CutB ((both f).2 p a)
 | 0 => ⟨fun u v h => by simp only [both, Res.bad.injEq] at h; rw [app_self h]; rfl, fun _ _ u v h => by simp only [both, Res.bad.injEq] at h; rw [app_self h]; rfl⟩
 | f + 1 => ⟨datF_cutB (both_cutB f).1 (both_cutB f).2, seqF_cutB (both_cutB f).1 (both_cut f).1 (both_cutB f).2 (both_good f).2⟩
theorem both_ext : ∀ f, Ext (both f).1 ∧ ∀ p a, Ext ((both f).2 p a)
 | 0 => ⟨fun _ _ _ _ h => (by cases h), fun _ _ _ _ _ _ h => (by cases h)⟩
 | f + 1 => ⟨datF_ext (both_ext f).1 (both_ext f).2, seqF_ext (both_ext f).1 (both_ext f).2⟩
theorem both_extB : ∀ f, ExtB (both f).1 ∧ ∀ p a, ExtB ((both f).2 p a)
 | 0 => ⟨fun _ _ _ => ⟨_, rfl⟩, fun _ _ _ _ _ => ⟨_, rfl⟩⟩
 | f + 1 => ⟨datF_extB (both_extB f).1 (both_extB f).2, seqF_extB (both_extB f).1 (both_ext f).1 (both_extB f).2⟩
theorem D_cut : Cut D := fun u v x b h => by
 have := (both_cut (2 * (u ++ v).length + 1)).1 u v x b h
 rwa [both_D (by rw [List.length_append]; omega)] at this
theorem D_cutB : CutB D := fun u v h => by
 have := (both_cutB (2 * (u ++ v).length + 1)).1 u v h
 rwa [both_D (by rw [List.length_append]; omega)] at this
theorem D_ext : Ext D := fun u v x b h => by
 rw [← both_D (f := 2 * (u ++ 10 :: v).length + 1) (by rw [List.length_append]; omega)] at h
 exact (both_ext _).1 u v x b h
theorem D_extB : ExtB D := fun u q h => by
 rw [← both_D (f := 2 * (u ++ [10, 59, 34]).length + 1) (by rw [List.length_append]; omega)] at h
 exact (both_extB _).1 u q h
theorem A_nil {r : List UInt8} (h : skip false r = []) : A r = .ok [] [] := by rw [A_eq]; unfold allG; rw [h]
theorem A_cons {r t : List UInt8} {b : UInt8} (h : skip false r = b :: t) : A r = match D (b :: t) with
  | .bad q => .bad q
  | .ok x q => if right x 0 = true then (A q).map (x :: ·) else .bad (b :: t) := by rw [A_eq]; unfold allG; rw [h] <;> rfl
theorem A_skip {r r' : List UInt8} (h : skip false r = skip false r') : A r = A r' := by rw [A_eq, A_eq r']; unfold allG; rw [h]
theorem A_cut : ∀ n (u v : List UInt8), u.length < n → A (u ++ v) = .bad v → (∃ l, A u = .ok l []) ∨ A u = .bad []
 | 0, _, _, hn, _ => by omega
 | n + 1, u, v, hn, h => by
  rcases skip_app u false with ⟨b, t, h1, h2⟩ | ⟨h1, m', h2⟩
  ·have hl := skip_le u false
   rw [h1] at hl
   rw [A_cons (h2 v)] at h
   rw [A_cons h1]
   rw [← List.cons_append] at h
   cases hd : D ((b :: t) ++ v) with
   | bad q =>
    rw [hd] at h
    simp only [Res.bad.injEq] at h
    subst h
    rw [D_cutB _ _ hd]
    exact .inr rfl
   | ok x q =>
    rw [hd] at h
    simp only at h
    split at h
    ·rename_i hr
     have hz := map_bad h
     have g := A_good q
     rw [hz] at g
     obtain ⟨q', rfl⟩ := suf_split (b := []) g
     have hc := D_cut _ _ _ _ hd
     have g2 := D_good (b :: t)
     rw [hc] at g2 ⊢
     simp only
     rw [if_pos hr]
     rcases A_cut n q' v (by have := g2.2; omega) hz with ⟨l, h⟩ | h
     ·rw [h]; exact .inl ⟨_, rfl⟩
     ·rw [h]; exact .inr rfl
    ·simp only [Res.bad.injEq] at h
     exact (len_cut h).elim
  ·exact .inl ⟨[], A_nil h1⟩
theorem A_app : ∀ n (u v : List UInt8) (l : List Dat), u.length < n → A u = .ok l [] → A (u ++ 10 :: v) = (A v).map (l ++ ·)
 | 0, _, _, _, hn, _ => by omega
 | n + 1, u, v, l, hn, h => by
  have h10 : A (10 :: v) = A v := A_skip (by simp [skip])
  rcases skip_app u false with ⟨b, t, h1, h2⟩ | ⟨h1, m', h2⟩
  ·have hl := skip_le u false
   rw [h1] at hl
   rw [A_cons h1] at h
   rw [A_cons (h2 _), ← List.cons_append]
   have g := D_good (b :: t)
   cases hd : D (b :: t) with
   | bad q => rw [hd] at h; cases h
   | ok x q =>
    rw [hd] at h g
    rw [D_ext _ _ _ _ hd]
    simp only at h ⊢
    split at h
    ·rename_i hr
     rw [if_pos hr]
     obtain ⟨l', hz, rfl⟩ := map_ok h
     rw [A_app n q v l' (by have := g.2; omega) hz]
     cases A v <;> rfl
    ·cases h
  ·rw [A_nil h1] at h
   simp only [Res.ok.injEq, and_true] at h
   subst h
   have : skip false (u ++ 10 :: v) = skip false (10 :: v) := by
    rw [h2]
    cases m' <;> simp [skip]
   rw [A_skip this, h10]
   cases A v <;> rfl
theorem A_bad : ∀ n (u q : List UInt8), u.length < n → A u = .bad q → ∃ q', A (u ++ [10, 59, 34]) = .bad q'
 | 0, _, _, hn, _ => by omega
 | n + 1, u, q, hn, h => by
  rcases skip_app u false with ⟨b, t, h1, h2⟩ | ⟨h1, m', h2⟩
  ·have hl := skip_le u false
   rw [h1] at hl
   rw [A_cons h1] at h
   rw [A_cons (h2 _), ← List.cons_append]
   have g := D_good (b :: t)
   cases hd : D (b :: t) with
   | bad q0 =>
    obtain ⟨q', hq⟩ := D_extB _ _ hd
    rw [hq]; exact ⟨q', rfl⟩
   | ok x q0 =>
    rw [hd] at h g
    rw [D_ext _ _ _ _ hd]
    simp only at h ⊢
    split at h
    ·rename_i hr
     rw [if_pos hr]
     obtain ⟨q', hq⟩ := A_bad n q0 q (by have := g.2; omega) (map_bad h)
     rw [hq]; exact ⟨q', rfl⟩
    ·rename_i hr
     rw [if_neg hr]; exact ⟨_, rfl⟩
  ·rw [A_nil h1] at h; cases h
end Rd
end
end Go.Proofs.YtpcneeekmhdhgaaGreatDoor
