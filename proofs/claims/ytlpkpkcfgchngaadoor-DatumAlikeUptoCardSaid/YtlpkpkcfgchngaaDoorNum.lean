/-
  The contracts of the functions of num and corbelref01 on numbers: each computes what Num (NumLaw) says, and writes nothing.
-/
import Derived.Test.YtlpkpkcfgchngaaDoorProg
import Derived.Test.YtlpkpkcfgchngaaDoorNumLaw
import Derived.WalkKit
import Derived.ProofKit
import Derived.BigQuiet
import Derived.Deep.QuietTactic
import Derived.Lib.Hide
import Derived.IntWalk
namespace Go.Proofs.YtlpkpkcfgchngaaDoor
open Go.RowKit

theorem ret_int {k : IntKind} {a b : Int} (h : a = b) : Ending.returned (.int k a) = .returned (.int k b) := by rw [h]
theorem ret_bool {a b : Bool} (h : a = b) : Ending.returned (.bool a) = .returned (.bool b) := by rw [h]
theorem ret_3 {a b c a' b' c' : Int} (h : (a, b, c) = (a', b', c')) : Ending.returned (.tuple #[.int .i64 a, .int .i64 b, .int .i64 c]) = .returned (.tuple #[.int .i64 a', .int .i64 b', .int .i64 c']) := by
  cases h; rfl
theorem ret_3p {a b c : Int} {p : Int × Int × Int} (h : p = (a, b, c)) : Ending.returned (.tuple #[.int .i64 a, .int .i64 b, .int .i64 c]) = .returned (.tuple #[.int .i64 p.1, .int .i64 p.2.1, .int .i64 p.2.2]) := by
  rw [h]

theorem quiet_of2 {P : Program} {f : FuncId} {args : Array Value} {w : World} {a n : Nat} {v : Value}
    (h : Calls P f args (w.drewN (a + n)) fun e w' => e = .returned v ∧ ∃ m, w' = (w.drewN (a + n)).drewN m) : Calls P f args (w.drewN (a + n)) fun e w'' => e = .returned v ∧ ∃ m, w'' = w.drewN (a + m) := by
  exact h.mono fun _ _ ⟨he, m, hm⟩ => ⟨he, n + m, by rw [hm, World.drewN_drewN, Nat.add_assoc]⟩

theorem wrap_neg_u64 (n : Int) (h0 : -9223372036854775808 ≤ n) (h : n < 0) : IntKind.u64.wrap (-IntKind.u64.wrap n) = n.natAbs := by
  simp [IntKind.wrap, IntKind.bits, IntKind.signed]
  omega

theorem amount_any (n : Int) (h0 : -9223372036854775808 ≤ n) (h1 : n ≤ 9223372036854775807) (w : World) :
    Calls Tryd.prog 35 #[.int .i64 n] w fun e w' => e = .returned (.int .u64 n.natAbs) ∧ w = w' := by
  by_cases h : n < 0
  · go_enter Tryd.func35, Tryd.ntmps35
    go_wp2
    go_ret
    exact ⟨ret_int (wrap_neg_u64 n h0 h), rfl⟩
  · go_enter Tryd.func35, Tryd.ntmps35
    go_wp2
    go_ret
    exact ⟨ret_int (by omega), rfl⟩

theorem common_nat (a b : Nat) (ha : a ≤ 9223372036854775808) (hb : b ≤ 9223372036854775808) (w : World) :
    Calls Tryd.prog 34 #[.int .u64 a, .int .u64 b] w fun e w' => e = .returned (.int .u64 (Nat.gcd a b : Nat)) ∧ ∃ n, w' = w.drewN n := by
  go_enter Tryd.func34, Tryd.ntmps34
  go_wp2
  go_step3
  go_wp2
  go_step3
  go_wp2
  go_loopw [0, 1] (fun x y wr => ∃ p q : Nat, x = .int .u64 p ∧ y = .int .u64 q ∧ p ≤ 9223372036854775808 ∧ q ≤ 9223372036854775808 ∧ Nat.gcd p q = Nat.gcd a b ∧ ∃ n, wr = w.drewN n) (fun _ y _ => (intOf y).toNat)
  case atStart => exact ⟨a, b, rfl, rfl, ha, hb, rfl, 0, rfl⟩
  case round =>
    obtain ⟨p, q, rfl, rfl, hp, hq, hg, n, rfl⟩ := hrel
    have H := Lib.hid hg
    clear hg
    by_cases hz : q = 0
    · subst hz
      go_wp2
      rw [Exit.noGoto_ret]
      go_ret
      exact ⟨ret_int (by rw [← H.out]; simp), n, rfl⟩
    · have hz1 : ((q : Int) == 0) = false := by simpa using hz
      have hlt : p % q < q := Nat.mod_lt _ (by omega)
      have hE := Lib.hid (show Nat.gcd q (p % q) = Nat.gcd a b by rw [Nat.gcd_comm, ← Nat.gcd_rec, Nat.gcd_comm]; exact H.out)
      go_wp2
      go_quiet (fail)
      go_wp2
      go_roundw
      case rel => exact ⟨q, p % q, rfl, by go_num, hq, by omega, hE.out, _, World.drewN_drewN _ _ _⟩
      case measure => simp [intOf]; omega

theorem common_int (a b : Int) (a0 : 0 ≤ a) (ha : a ≤ 9223372036854775808) (b0 : 0 ≤ b) (hb : b ≤ 9223372036854775808) (w : World) :
    Calls Tryd.prog 34 #[.int .u64 a, .int .u64 b] w fun e w' => e = .returned (.int .u64 (Int.gcd a b)) ∧ ∃ n, w' = w.drewN n := by
  obtain ⟨p, rfl⟩ := Int.eq_ofNat_of_zero_le a0
  obtain ⟨q, rfl⟩ := Int.eq_ofNat_of_zero_le b0
  exact common_nat p q (by omega) (by omega) w

theorem gcd_natAbs (n d : Int) : Int.gcd (n.natAbs : Int) d = Int.gcd n d := by simp [Int.gcd]

theorem right_any (n d : Int) (h0 : -9223372036854775808 ≤ n) (h1 : n ≤ 9223372036854775807) (h2 : -9223372036854775808 ≤ d) (h3 : d ≤ 9223372036854775807) (w : World) :
    Calls Tryd.prog 26 #[.int .i64 n, .int .i64 d] w fun e w' => e = .returned (.bool (Num.right n d)) ∧ ∃ k, w' = w.drewN k := by
  go_enter Tryd.func26, Tryd.ntmps26
  go_wp2_with (first | (go_at_call 35; refine (amount_any _ (by omega) (by omega) _).mono ?_; rintro e w' ⟨rfl, rfl⟩) | (go_at_call 34; refine (common_int _ _ (by omega) (by omega) (by omega) (by omega) _).mono ?_; rintro e w' ⟨rfl, k, rfl⟩))
  all_goals go_ret
  · exact ⟨ret_bool (by rw [gcd_natAbs]; simp [Num.right, *]; rw [Bool.eq_iff_iff]; simp; omega), _, rfl⟩
  all_goals exact ⟨ret_bool (by simp [Num.right]; omega), 0, rfl⟩

end Go.Proofs.YtlpkpkcfgchngaaDoor
