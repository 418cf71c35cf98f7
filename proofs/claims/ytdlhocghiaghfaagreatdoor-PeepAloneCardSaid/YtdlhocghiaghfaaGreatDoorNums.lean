/-
  The contracts of the functions of num and corbelref01 on numbers: each computes what Num (NumLaw) says, and writes nothing.
-/
import Derived.Test.YtdlhocghiaghfaaGreatDoorProg
import Derived.Test.YtdlhocghiaghfaaGreatDoorPlain
import Derived.WalkKit
import Derived.ProofKit
import Derived.BigQuiet
import Derived.Deep.QuietTactic
import Derived.Lib.Hide
import Derived.IntWalk
namespace Go.Proofs.YtdlhocghiaghfaaGreatDoor
open Go.RowKit

theorem ret_int {k : IntKind} {a b : Int} (h : a = b) : Ending.returned (.int k a) = .returned (.int k b) := by rw [h]
theorem ret_bool {a b : Bool} (h : a = b) : Ending.returned (.bool a) = .returned (.bool b) := by rw [h]
theorem ret_3 {a b c a' b' c' : Int} (h : (a, b, c) = (a', b', c')) : Ending.returned (.tuple #[.int .i64 a, .int .i64 b, .int .i64 c]) = .returned (.tuple #[.int .i64 a', .int .i64 b', .int .i64 c']) := by
  cases h; rfl
theorem ret_3p {a b c : Int} {p : Int × Int × Int} (h : p = (a, b, c)) : Ending.returned (.tuple #[.int .i64 a, .int .i64 b, .int .i64 c]) = .returned (.tuple #[.int .i64 p.1, .int .i64 p.2.1, .int .i64 p.2.2]) := by
  rw [h]

theorem quiet_of2 {P : Program} {f : FuncId} {args : Array Value} {w : World} {a n : Nat} {v : Value}
    (h : Calls P f args (w.drewN (a + n)) fun e w' => e = .returned v ∧ ∃ m, w' = (w.drewN (a + n)).drewN m) : Calls P f args (w.drewN (a + n)) fun e w'' => e = .returned v ∧ ∃ m, w'' = w.drewN (a + m) := by
  exact h.mono fun _ _ ⟨he, m, hm⟩ => ⟨he, n + m, by rw [hm, World.drewN_drewN, Nat.add_assoc]⟩

theorem wrap_neg_u64 (n : Int) (h0 : -9223372036854775808 ≤ n) (h : n < 0) : IntKind.u64.wrap (-IntKind.u64.wrap n) = n.natAbs := by
  simp [IntKind.wrap, IntKind.bits, IntKind.signed]
  omega

theorem amount_any (n : Int) (h0 : -9223372036854775808 ≤ n) (h1 : n ≤ 9223372036854775807) (w : World) :
    Calls Tryz.prog 135 #[.int .i64 n] w fun e w' => e = .returned (.int .u64 n.natAbs) ∧ w = w' := by
  by_cases h : n < 0
  · go_enter Tryz.func135, Tryz.ntmps135
    go_wp2
    go_ret
    exact ⟨ret_int (wrap_neg_u64 n h0 h), rfl⟩
  · go_enter Tryz.func135, Tryz.ntmps135
    go_wp2
    go_ret
    exact ⟨ret_int (by omega), rfl⟩

theorem rsize_any (n : Int) (h0 : -9223372036854775808 ≤ n) (h1 : n ≤ 9223372036854775807) (w : World) :
    Calls Tryz.prog 140 #[.int .i64 n] w fun e w' => e = .returned (.int .u64 n.natAbs) ∧ w = w' := by
  by_cases h : n < 0
  · go_enter Tryz.func140, Tryz.ntmps140
    go_wp2
    go_ret
    exact ⟨ret_int (wrap_neg_u64 n h0 h), rfl⟩
  · go_enter Tryz.func140, Tryz.ntmps140
    go_wp2
    go_ret
    exact ⟨ret_int (by omega), rfl⟩

theorem common_nat (a b : Nat) (ha : a ≤ 9223372036854775808) (hb : b ≤ 9223372036854775808) (w : World) :
    Calls Tryz.prog 134 #[.int .u64 a, .int .u64 b] w fun e w' => e = .returned (.int .u64 (Nat.gcd a b : Nat)) ∧ ∃ n, w' = w.drewN n := by
  go_enter Tryz.func134, Tryz.ntmps134
  go_wp2
  go_step3
  go_wp2
  go_step3
  go_wp2
  go_loopw [0, 1] (fun x y wr => ∃ p q : Nat, x = .int .u64 p ∧ y = .int .u64 q ∧ p ≤ 9223372036854775808 ∧ q ≤ 9223372036854775808 ∧ Nat.gcd p q = Nat.gcd a b ∧ ∃ n, wr = w.drewN n) (fun _ y _ => (intOf y).toNat)
  case atStart => exact ⟨a, b, rfl, rfl, ha, hb, rfl, 0, rfl⟩
  case round =>
    obtain ⟨p, q, rfl, rfl, hp, hq, hg, n, rfl⟩ := hrel
    have H := Lib.hid hg
    clear hg
    by_cases hz : q = 0
    · subst hz
      go_wp2
      rw [Exit.noGoto_ret]
      go_ret
      exact ⟨ret_int (by rw [← H.out]; simp), n, rfl⟩
    · have hz1 : ((q : Int) == 0) = false := by simpa using hz
      have hlt : p % q < q := Nat.mod_lt _ (by omega)
      have hE := Lib.hid (show Nat.gcd q (p % q) = Nat.gcd a b by rw [Nat.gcd_comm, ← Nat.gcd_rec, Nat.gcd_comm]; exact H.out)
      go_wp2
      go_quiet (fail)
      go_wp2
      go_roundw
      case rel => exact ⟨q, p % q, rfl, by go_num, hq, by omega, hE.out, _, World.drewN_drewN _ _ _⟩
      case measure => simp [intOf]; omega

theorem common_int (a b : Int) (a0 : 0 ≤ a) (ha : a ≤ 9223372036854775808) (b0 : 0 ≤ b) (hb : b ≤ 9223372036854775808) (w : World) :
    Calls Tryz.prog 134 #[.int .u64 a, .int .u64 b] w fun e w' => e = .returned (.int .u64 (Int.gcd a b)) ∧ ∃ n, w' = w.drewN n := by
  obtain ⟨p, rfl⟩ := Int.eq_ofNat_of_zero_le a0
  obtain ⟨q, rfl⟩ := Int.eq_ofNat_of_zero_le b0
  exact common_nat p q (by omega) (by omega) w

theorem rgcd_nat (a b : Nat) (ha : a ≤ 9223372036854775808) (hb : b ≤ 9223372036854775808) (w : World) :
    Calls Tryz.prog 139 #[.int .u64 a, .int .u64 b] w fun e w' => e = .returned (.int .u64 (Nat.gcd a b : Nat)) ∧ w = w' := by
  go_enter Tryz.func139, Tryz.ntmps139
  go_wp2
  go_loop [0, 1] (fun x y => ∃ p q : Nat, x = .int .u64 p ∧ y = .int .u64 q ∧ p ≤ 9223372036854775808 ∧ q ≤ 9223372036854775808 ∧ Nat.gcd p q = Nat.gcd a b) (fun _ y => (intOf y).toNat)
  case atStart => exact ⟨a, b, rfl, rfl, ha, hb, rfl⟩
  case round =>
    obtain ⟨p, q, rfl, rfl, hp, hq, hg⟩ := hrel
    have H := Lib.hid hg
    clear hg
    by_cases hz : q = 0
    · subst hz
      go_wp2
      go_ret
      exact ⟨ret_int (by rw [← H.out]; simp), rfl⟩
    · have hz1 : (0 : Int) < q := by omega
      have hlt : p % q < q := Nat.mod_lt _ (by omega)
      have hE := Lib.hid (show Nat.gcd q (p % q) = Nat.gcd a b by rw [Nat.gcd_comm, ← Nat.gcd_rec, Nat.gcd_comm]; exact H.out)
      go_wp2
      go_round
      case rel => exact ⟨q, p % q, rfl, by go_num, hq, by omega, hE.out⟩
      case measure => simp [intOf]; omega

theorem rgcd_int (a b : Int) (a0 : 0 ≤ a) (ha : a ≤ 9223372036854775808) (b0 : 0 ≤ b) (hb : b ≤ 9223372036854775808) (w : World) :
    Calls Tryz.prog 139 #[.int .u64 a, .int .u64 b] w fun e w' => e = .returned (.int .u64 (Int.gcd a b)) ∧ w = w' := by
  obtain ⟨p, rfl⟩ := Int.eq_ofNat_of_zero_le a0
  obtain ⟨q, rfl⟩ := Int.eq_ofNat_of_zero_le b0
  exact rgcd_nat p q (by omega) (by omega) w

theorem gcd_natAbs (n d : Int) : Int.gcd (n.natAbs : Int) d = Int.gcd n d := by simp [Int.gcd]

theorem right_any (n d : Int) (h0 : -9223372036854775808 ≤ n) (h1 : n ≤ 9223372036854775807) (h2 : -9223372036854775808 ≤ d) (h3 : d ≤ 9223372036854775807) (w : World) :
    Calls Tryz.prog 99 #[.int .i64 n, .int .i64 d] w fun e w' => e = .returned (.bool (Num.right n d)) ∧ ∃ k, w' = w.drewN k := by
  go_enter Tryz.func99, Tryz.ntmps99
  go_wp2_with (first | (go_at_call 135; refine (amount_any _ (by omega) (by omega) _).mono ?_; rintro e w' ⟨rfl, rfl⟩) | (go_at_call 134; refine (common_int _ _ (by omega) (by omega) (by omega) (by omega) _).mono ?_; rintro e w' ⟨rfl, k, rfl⟩))
  all_goals go_ret
  · exact ⟨ret_bool (by rw [gcd_natAbs]; simp [Num.right, *]; rw [Bool.eq_iff_iff]; simp; omega), _, rfl⟩
  all_goals exact ⟨ret_bool (by simp [Num.right]; omega), 0, rfl⟩

theorem rright_any (n d : Int) (h0 : -9223372036854775808 ≤ n) (h1 : n ≤ 9223372036854775807) (h2 : -9223372036854775808 ≤ d) (h3 : d ≤ 9223372036854775807) (w : World) :
    Calls Tryz.prog 104 #[.int .i64 n, .int .i64 d] w fun e w' => e = .returned (.bool (Num.right n d)) ∧ ∃ k, w' = w.drewN k := by
  go_enter Tryz.func104, Tryz.ntmps104
  go_wp2_with (first | (go_at_call 140; refine (rsize_any _ (by omega) (by omega) _).mono ?_; rintro e w' ⟨rfl, rfl⟩) | (go_at_call 139; refine (rgcd_int _ _ (by omega) (by omega) (by omega) (by omega) _).mono ?_; rintro e w' ⟨rfl, rfl⟩))
  all_goals go_ret
  · exact ⟨ret_bool (by rw [gcd_natAbs]; simp [Num.right, *]; rw [Bool.eq_iff_iff]; simp; omega), 0, rfl⟩
  all_goals exact ⟨ret_bool (by simp [Num.right]; omega), 0, rfl⟩

end Go.Proofs.YtdlhocghiaghfaaGreatDoor

namespace Go.Proofs.YtdlhocghiaghfaaGreatDoor
open Go.RowKit

theorem common_to (n d : Int) (G : Nat) (hG : Int.gcd n d = G) (h0 : n.natAbs ≤ 9223372036854775808) (h2 : d.natAbs ≤ 9223372036854775808) (w : World) :
    Calls Tryz.prog 134 #[.int .u64 n.natAbs, .int .u64 d.natAbs] w fun e w' => e = .returned (.int .u64 G) ∧ ∃ n, w' = w.drewN n := by
  refine (common_int _ _ (by omega) (by omega) (by omega) (by omega) w).mono ?_
  rintro e w' ⟨rfl, k⟩
  exact ⟨by rw [← hG]; simp [Int.gcd], k⟩

theorem rgcd_to (n d : Int) (G : Nat) (hG : Int.gcd n d = G) (h0 : n.natAbs ≤ 9223372036854775808) (h2 : d.natAbs ≤ 9223372036854775808) (w : World) :
    Calls Tryz.prog 139 #[.int .u64 n.natAbs, .int .u64 d.natAbs] w fun e w' => e = .returned (.int .u64 G) ∧ w = w' := by
  refine (rgcd_int _ _ (by omega) (by omega) (by omega) (by omega) w).mono ?_
  rintro e w' ⟨rfl, k⟩
  exact ⟨by rw [← hG]; simp [Int.gcd], k⟩

theorem make_any (n d : Int) (h0 : -9223372036854775808 ≤ n) (h1 : n ≤ 9223372036854775807) (h2 : -9223372036854775808 ≤ d) (h3 : d ≤ 9223372036854775807) (w : World) :
    Calls Tryz.prog 162 #[.int .i64 n, .int .i64 d] w fun e w' => e = .returned (.tuple #[.int .i64 (Num.mk n d).1, .int .i64 (Num.mk n d).2.1, .int .i64 (Num.mk n d).2.2]) ∧ ∃ k, w' = w.drewN k := by
  by_cases hd : d = 0
  · subst hd
    go_enter Tryz.func162, Tryz.ntmps162
    go_wp2
    go_ret3
    exact ⟨ret_3p rfl, 0, rfl⟩
  · have hg := Num.gcd_ne (n := n) hd
    have hd0 : (d == 0) = false := by simpa using hd
    obtain ⟨G, hG⟩ : ∃ G, Int.gcd n d = G := ⟨_, rfl⟩
    obtain ⟨A, hA⟩ : ∃ A, n.natAbs / G = A := ⟨_, rfl⟩
    obtain ⟨B, hB⟩ : ∃ B, d.natAbs / G = B := ⟨_, rfl⟩
    rw [hG] at hg
    have HK : Hid (Num.mk n d = if 2147483647 < A ∨ 2147483647 < B then (0, 0, 3) else if n < 0 ↔ d < 0 then ((A : Int), (B : Int), 0) else (-(A : Int), (B : Int), 0)) := Lib.hid (by simp only [Num.mk, hd, if_false, hG, hA, hB])
    have b1 : A ≤ n.natAbs := by rw [← hA]; exact Nat.div_le_self _ _
    have b2 : B ≤ d.natAbs := by rw [← hB]; exact Nat.div_le_self _ _
    have q1 : ((n.natAbs : Int) / (G : Int)) = A := by rw [← hA]; rfl
    have q2 : ((d.natAbs : Int) / (G : Int)) = B := by rw [← hB]; rfl
    have HG := Lib.hid hG
    clear hG hA hB
    have hg0 : ((G : Int) == 0) = false := by simpa using hg
    cases hn : decide (n < 0) <;> cases hm : decide (d < 0)
    all_goals
      have hn2 := hn
      have hm2 := hm
      simp only [decide_eq_true_eq, decide_eq_false_iff_not, Int.not_lt] at hn2 hm2
      go_enter Tryz.func162, Tryz.ntmps162
      go_wp2_with (first | (go_at_call 135; refine (amount_any _ (by omega) (by omega) _).mono ?_; rintro e w' ⟨rfl, rfl⟩) | (go_at_call 134; refine (common_to _ _ G HG.out (by omega) (by omega) _).mono ?_; rintro e w' ⟨rfl, k, rfl⟩))
      go_quiet (fail)
      go_wp2
      all_goals
        go_ret3
        refine ⟨ret_3p (HK.out.trans ?_), by first | exact ⟨0, rfl⟩ | exact ⟨_, rfl⟩⟩
        first
          | (rw [if_pos (by omega)])
          | (rw [if_neg (by omega), if_pos (by omega)])
          | (rw [if_neg (by omega), if_neg (by omega)])

theorem rmake_any (n d : Int) (h0 : -9223372036854775808 ≤ n) (h1 : n ≤ 9223372036854775807) (h2 : -9223372036854775808 ≤ d) (h3 : d ≤ 9223372036854775807) (w : World) :
    Calls Tryz.prog 164 #[.int .i64 n, .int .i64 d] w fun e w' => e = .returned (.tuple #[.int .i64 (Num.mk n d).1, .int .i64 (Num.mk n d).2.1, .int .i64 (Num.mk n d).2.2]) ∧ ∃ k, w' = w.drewN k := by
  by_cases hd : d = 0
  · subst hd
    go_enter Tryz.func164, Tryz.ntmps164
    go_wp2
    go_ret3
    exact ⟨ret_3p rfl, 0, rfl⟩
  · have hg := Num.gcd_ne (n := n) hd
    have hd0 : (d == 0) = false := by simpa using hd
    obtain ⟨G, hG⟩ : ∃ G, Int.gcd n d = G := ⟨_, rfl⟩
    obtain ⟨A, hA⟩ : ∃ A, n.natAbs / G = A := ⟨_, rfl⟩
    obtain ⟨B, hB⟩ : ∃ B, d.natAbs / G = B := ⟨_, rfl⟩
    rw [hG] at hg
    have HK : Hid (Num.mk n d = if 2147483647 < A ∨ 2147483647 < B then (0, 0, 3) else if n < 0 ↔ d < 0 then ((A : Int), (B : Int), 0) else (-(A : Int), (B : Int), 0)) := Lib.hid (by simp only [Num.mk, hd, if_false, hG, hA, hB])
    have b1 : A ≤ n.natAbs := by rw [← hA]; exact Nat.div_le_self _ _
    have b2 : B ≤ d.natAbs := by rw [← hB]; exact Nat.div_le_self _ _
    have q1 : ((n.natAbs : Int) / (G : Int)) = A := by rw [← hA]; rfl
    have q2 : ((d.natAbs : Int) / (G : Int)) = B := by rw [← hB]; rfl
    have HG := Lib.hid hG
    clear hG hA hB
    have hg0 : ((G : Int) == 0) = false := by simpa using hg
    cases hn : decide (n < 0) <;> cases hm : decide (d < 0)
    all_goals
      have hn2 := hn
      have hm2 := hm
      simp only [decide_eq_true_eq, decide_eq_false_iff_not, Int.not_lt] at hn2 hm2
      go_enter Tryz.func164, Tryz.ntmps164
      go_wp2_with (first | (go_at_call 140; refine (rsize_any _ (by omega) (by omega) _).mono ?_; rintro e w' ⟨rfl, rfl⟩) | (go_at_call 139; refine (rgcd_to _ _ G HG.out (by omega) (by omega) _).mono ?_; rintro e w' ⟨rfl, rfl⟩))
      all_goals
        go_ret3
        refine ⟨ret_3p (HK.out.trans ?_), by first | exact ⟨0, rfl⟩ | exact ⟨_, rfl⟩⟩
        first
          | (rw [if_pos (by omega)])
          | (rw [if_neg (by omega), if_pos (by omega)])
          | (rw [if_neg (by omega), if_neg (by omega)])

end Go.Proofs.YtdlhocghiaghfaaGreatDoor

namespace Go.Proofs.YtdlhocghiaghfaaGreatDoor
open Go.RowKit

end Go.Proofs.YtdlhocghiaghfaaGreatDoor

namespace Go.Proofs.YtdlhocghiaghfaaGreatDoor
open Go.RowKit

theorem rgcd_to' (n d : Int) (G : Nat) (hG : Int.gcd n d = G) (h0 : n.natAbs ≤ 9223372036854775808) (h1 : 0 ≤ d) (h2 : d.natAbs ≤ 9223372036854775808) (w : World) :
    Calls Tryz.prog 139 #[.int .u64 n.natAbs, .int .u64 d] w fun e w' => e = .returned (.int .u64 G) ∧ w = w' := by
  refine (rgcd_int _ _ (by omega) (by omega) (by omega) (by omega) w).mono ?_
  rintro e w' ⟨rfl, k⟩
  exact ⟨by rw [← hG]; simp [Int.gcd], k⟩

end Go.Proofs.YtdlhocghiaghfaaGreatDoor

namespace Go.Proofs.YtdlhocghiaghfaaGreatDoor
open Go.RowKit

theorem make_to (n d x y z : Int) (hq : Num.mk n d = (x, y, z)) (h0 : -9223372036854775808 ≤ n) (h1 : n ≤ 9223372036854775807) (h2 : -9223372036854775808 ≤ d) (h3 : d ≤ 9223372036854775807) (w : World) :
    Calls Tryz.prog 162 #[.int .i64 n, .int .i64 d] w fun e' w' => e' = .returned (.tuple #[.int .i64 x, .int .i64 y, .int .i64 z]) ∧ ∃ k, w' = w.drewN k := by
  have := make_any n d (by assumption) (by assumption) (by assumption) (by assumption) w
  rw [hq] at this
  exact this

theorem rmake_to (n d x y z : Int) (hq : Num.mk n d = (x, y, z)) (h0 : -9223372036854775808 ≤ n) (h1 : n ≤ 9223372036854775807) (h2 : -9223372036854775808 ≤ d) (h3 : d ≤ 9223372036854775807) (w : World) :
    Calls Tryz.prog 164 #[.int .i64 n, .int .i64 d] w fun e' w' => e' = .returned (.tuple #[.int .i64 x, .int .i64 y, .int .i64 z]) ∧ ∃ k, w' = w.drewN k := by
  have := rmake_any n d (by assumption) (by assumption) (by assumption) (by assumption) w
  rw [hq] at this
  exact this

theorem right_to (n d : Int) (x : Bool) (hq : Num.right n d = x) (h0 : -9223372036854775808 ≤ n) (h1 : n ≤ 9223372036854775807) (h2 : -9223372036854775808 ≤ d) (h3 : d ≤ 9223372036854775807) (w : World) :
    Calls Tryz.prog 99 #[.int .i64 n, .int .i64 d] w fun e' w' => e' = .returned (.bool x) ∧ ∃ k, w' = w.drewN k := by
  have := right_any n d (by assumption) (by assumption) (by assumption) (by assumption) w
  rw [hq] at this
  exact this

theorem rright_to (n d : Int) (x : Bool) (hq : Num.right n d = x) (h0 : -9223372036854775808 ≤ n) (h1 : n ≤ 9223372036854775807) (h2 : -9223372036854775808 ≤ d) (h3 : d ≤ 9223372036854775807) (w : World) :
    Calls Tryz.prog 104 #[.int .i64 n, .int .i64 d] w fun e' w' => e' = .returned (.bool x) ∧ ∃ k, w' = w.drewN k := by
  have := rright_any n d (by assumption) (by assumption) (by assumption) (by assumption) w
  rw [hq] at this
  exact this

end Go.Proofs.YtdlhocghiaghfaaGreatDoor
