/-
  The contracts of the functions of num and corbelref01 on numbers: each computes what Num (NumLaw) says, and writes nothing.
-/
import Derived.Test.YtnpiekniignfcaaGreatDoorProg
import Derived.Test.YtnpiekniignfcaaGreatDoorPlain
import Derived.WalkKit
import Derived.ProofKit
import Derived.BigQuiet
import Derived.Deep.QuietTactic
import Derived.Lib.Hide
import Derived.IntWalk
namespace Go.Proofs.YtnpiekniignfcaaGreatDoor
open Go.RowKit

theorem ret_int {k : IntKind} {a b : Int} (h : a = b) : Ending.returned (.int k a) = .returned (.int k b) := by rw [h]
theorem ret_bool {a b : Bool} (h : a = b) : Ending.returned (.bool a) = .returned (.bool b) := by rw [h]
theorem ret_3 {a b c a' b' c' : Int} (h : (a, b, c) = (a', b', c')) : Ending.returned (.tuple #[.int .i64 a, .int .i64 b, .int .i64 c]) = .returned (.tuple #[.int .i64 a', .int .i64 b', .int .i64 c']) := by
  cases h; rfl
theorem ret_3p {a b c : Int} {p : Int × Int × Int} (h : p = (a, b, c)) : Ending.returned (.tuple #[.int .i64 a, .int .i64 b, .int .i64 c]) = .returned (.tuple #[.int .i64 p.1, .int .i64 p.2.1, .int .i64 p.2.2]) := by
  rw [h]

theorem quiet_of2 {P : Program} {f : FuncId} {args : Array Value} {w : World} {a n : Nat} {v : Value}
    (h : Calls P f args (w.drewN (a + n)) fun e w' => e = .returned v ∧ ∃ m, w' = (w.drewN (a + n)).drewN m) : Calls P f args (w.drewN (a + n)) fun e w'' => e = .returned v ∧ ∃ m, w'' = w.drewN (a + m) := by
  exact h.mono fun _ _ ⟨he, m, hm⟩ => ⟨he, n + m, by rw [hm, World.drewN_drewN, Nat.add_assoc]⟩

theorem wrap_neg_u64 (n : Int) (h0 : -9223372036854775808 ≤ n) (h : n < 0) : IntKind.u64.wrap (-IntKind.u64.wrap n) = n.natAbs := by
  simp [IntKind.wrap, IntKind.bits, IntKind.signed]
  omega

theorem amount_any (n : Int) (h0 : -9223372036854775808 ≤ n) (h1 : n ≤ 9223372036854775807) (w : World) :
    Calls Tryz.prog 37 #[.int .i64 n] w fun e w' => e = .returned (.int .u64 n.natAbs) ∧ w = w' := by
  by_cases h : n < 0
  · go_enter Tryz.func37, Tryz.ntmps37
    go_wp2
    go_ret
    exact ⟨ret_int (wrap_neg_u64 n h0 h), rfl⟩
  · go_enter Tryz.func37, Tryz.ntmps37
    go_wp2
    go_ret
    exact ⟨ret_int (by omega), rfl⟩

theorem rsize_any (n : Int) (h0 : -9223372036854775808 ≤ n) (h1 : n ≤ 9223372036854775807) (w : World) :
    Calls Tryz.prog 83 #[.int .i64 n] w fun e w' => e = .returned (.int .u64 n.natAbs) ∧ w = w' := by
  by_cases h : n < 0
  · go_enter Tryz.func83, Tryz.ntmps83
    go_wp2
    go_ret
    exact ⟨ret_int (wrap_neg_u64 n h0 h), rfl⟩
  · go_enter Tryz.func83, Tryz.ntmps83
    go_wp2
    go_ret
    exact ⟨ret_int (by omega), rfl⟩

theorem common_nat (a b : Nat) (ha : a ≤ 9223372036854775808) (hb : b ≤ 9223372036854775808) (w : World) :
    Calls Tryz.prog 38 #[.int .u64 a, .int .u64 b] w fun e w' => e = .returned (.int .u64 (Nat.gcd a b : Nat)) ∧ ∃ n, w' = w.drewN n := by
  go_enter Tryz.func38, Tryz.ntmps38
  go_wp2
  go_step3
  go_wp2
  go_step3
  go_wp2
  go_loopw [0, 1] (fun x y wr => ∃ p q : Nat, x = .int .u64 p ∧ y = .int .u64 q ∧ p ≤ 9223372036854775808 ∧ q ≤ 9223372036854775808 ∧ Nat.gcd p q = Nat.gcd a b ∧ ∃ n, wr = w.drewN n) (fun _ y _ => (intOf y).toNat)
  case atStart => exact ⟨a, b, rfl, rfl, ha, hb, rfl, 0, rfl⟩
  case round =>
    obtain ⟨p, q, rfl, rfl, hp, hq, hg, n, rfl⟩ := hrel
    have H := Lib.hid hg
    clear hg
    by_cases hz : q = 0
    · subst hz
      go_wp2
      rw [Exit.noGoto_ret]
      go_ret
      exact ⟨ret_int (by rw [← H.out]; simp), n, rfl⟩
    · have hz1 : ((q : Int) == 0) = false := by simpa using hz
      have hlt : p % q < q := Nat.mod_lt _ (by omega)
      have hE := Lib.hid (show Nat.gcd q (p % q) = Nat.gcd a b by rw [Nat.gcd_comm, ← Nat.gcd_rec, Nat.gcd_comm]; exact H.out)
      go_wp2
      go_quiet (fail)
      go_wp2
      go_roundw
      case rel => exact ⟨q, p % q, rfl, by go_num, hq, by omega, hE.out, _, World.drewN_drewN _ _ _⟩
      case measure => simp [intOf]; omega

theorem common_int (a b : Int) (a0 : 0 ≤ a) (ha : a ≤ 9223372036854775808) (b0 : 0 ≤ b) (hb : b ≤ 9223372036854775808) (w : World) :
    Calls Tryz.prog 38 #[.int .u64 a, .int .u64 b] w fun e w' => e = .returned (.int .u64 (Int.gcd a b)) ∧ ∃ n, w' = w.drewN n := by
  obtain ⟨p, rfl⟩ := Int.eq_ofNat_of_zero_le a0
  obtain ⟨q, rfl⟩ := Int.eq_ofNat_of_zero_le b0
  exact common_nat p q (by omega) (by omega) w

theorem rgcd_nat (a b : Nat) (ha : a ≤ 9223372036854775808) (hb : b ≤ 9223372036854775808) (w : World) :
    Calls Tryz.prog 82 #[.int .u64 a, .int .u64 b] w fun e w' => e = .returned (.int .u64 (Nat.gcd a b : Nat)) ∧ w = w' := by
  go_enter Tryz.func82, Tryz.ntmps82
  go_wp2
  go_loop [0, 1] (fun x y => ∃ p q : Nat, x = .int .u64 p ∧ y = .int .u64 q ∧ p ≤ 9223372036854775808 ∧ q ≤ 9223372036854775808 ∧ Nat.gcd p q = Nat.gcd a b) (fun _ y => (intOf y).toNat)
  case atStart => exact ⟨a, b, rfl, rfl, ha, hb, rfl⟩
  case round =>
    obtain ⟨p, q, rfl, rfl, hp, hq, hg⟩ := hrel
    have H := Lib.hid hg
    clear hg
    by_cases hz : q = 0
    · subst hz
      go_wp2
      go_ret
      exact ⟨ret_int (by rw [← H.out]; simp), rfl⟩
    · have hz1 : (0 : Int) < q := by omega
      have hlt : p % q < q := Nat.mod_lt _ (by omega)
      have hE := Lib.hid (show Nat.gcd q (p % q) = Nat.gcd a b by rw [Nat.gcd_comm, ← Nat.gcd_rec, Nat.gcd_comm]; exact H.out)
      go_wp2
      go_round
      case rel => exact ⟨q, p % q, rfl, by go_num, hq, by omega, hE.out⟩
      case measure => simp [intOf]; omega

theorem rgcd_int (a b : Int) (a0 : 0 ≤ a) (ha : a ≤ 9223372036854775808) (b0 : 0 ≤ b) (hb : b ≤ 9223372036854775808) (w : World) :
    Calls Tryz.prog 82 #[.int .u64 a, .int .u64 b] w fun e w' => e = .returned (.int .u64 (Int.gcd a b)) ∧ w = w' := by
  obtain ⟨p, rfl⟩ := Int.eq_ofNat_of_zero_le a0
  obtain ⟨q, rfl⟩ := Int.eq_ofNat_of_zero_le b0
  exact rgcd_nat p q (by omega) (by omega) w

theorem gcd_natAbs (n d : Int) : Int.gcd (n.natAbs : Int) d = Int.gcd n d := by simp [Int.gcd]

theorem right_any (n d : Int) (h0 : -9223372036854775808 ≤ n) (h1 : n ≤ 9223372036854775807) (h2 : -9223372036854775808 ≤ d) (h3 : d ≤ 9223372036854775807) (w : World) :
    Calls Tryz.prog 63 #[.int .i64 n, .int .i64 d] w fun e w' => e = .returned (.bool (Num.right n d)) ∧ ∃ k, w' = w.drewN k := by
  go_enter Tryz.func63, Tryz.ntmps63
  go_wp2_with (first | (go_at_call 37; refine (amount_any _ (by omega) (by omega) _).mono ?_; rintro e w' ⟨rfl, rfl⟩) | (go_at_call 38; refine (common_int _ _ (by omega) (by omega) (by omega) (by omega) _).mono ?_; rintro e w' ⟨rfl, k, rfl⟩))
  all_goals go_ret
  · exact ⟨ret_bool (by rw [gcd_natAbs]; simp [Num.right, *]; rw [Bool.eq_iff_iff]; simp; omega), _, rfl⟩
  all_goals exact ⟨ret_bool (by simp [Num.right]; omega), 0, rfl⟩

theorem rright_any (n d : Int) (h0 : -9223372036854775808 ≤ n) (h1 : n ≤ 9223372036854775807) (h2 : -9223372036854775808 ≤ d) (h3 : d ≤ 9223372036854775807) (w : World) :
    Calls Tryz.prog 71 #[.int .i64 n, .int .i64 d] w fun e w' => e = .returned (.bool (Num.right n d)) ∧ ∃ k, w' = w.drewN k := by
  go_enter Tryz.func71, Tryz.ntmps71
  go_wp2_with (first | (go_at_call 83; refine (rsize_any _ (by omega) (by omega) _).mono ?_; rintro e w' ⟨rfl, rfl⟩) | (go_at_call 82; refine (rgcd_int _ _ (by omega) (by omega) (by omega) (by omega) _).mono ?_; rintro e w' ⟨rfl, rfl⟩))
  all_goals go_ret
  · exact ⟨ret_bool (by rw [gcd_natAbs]; simp [Num.right, *]; rw [Bool.eq_iff_iff]; simp; omega), 0, rfl⟩
  all_goals exact ⟨ret_bool (by simp [Num.right]; omega), 0, rfl⟩

end Go.Proofs.YtnpiekniignfcaaGreatDoor

namespace Go.Proofs.YtnpiekniignfcaaGreatDoor
open Go.RowKit

theorem common_to (n d : Int) (G : Nat) (hG : Int.gcd n d = G) (h0 : n.natAbs ≤ 9223372036854775808) (h2 : d.natAbs ≤ 9223372036854775808) (w : World) :
    Calls Tryz.prog 38 #[.int .u64 n.natAbs, .int .u64 d.natAbs] w fun e w' => e = .returned (.int .u64 G) ∧ ∃ n, w' = w.drewN n := by
  refine (common_int _ _ (by omega) (by omega) (by omega) (by omega) w).mono ?_
  rintro e w' ⟨rfl, k⟩
  exact ⟨by rw [← hG]; simp [Int.gcd], k⟩

theorem rgcd_to (n d : Int) (G : Nat) (hG : Int.gcd n d = G) (h0 : n.natAbs ≤ 9223372036854775808) (h2 : d.natAbs ≤ 9223372036854775808) (w : World) :
    Calls Tryz.prog 82 #[.int .u64 n.natAbs, .int .u64 d.natAbs] w fun e w' => e = .returned (.int .u64 G) ∧ w = w' := by
  refine (rgcd_int _ _ (by omega) (by omega) (by omega) (by omega) w).mono ?_
  rintro e w' ⟨rfl, k⟩
  exact ⟨by rw [← hG]; simp [Int.gcd], k⟩

theorem make_any (n d : Int) (h0 : -9223372036854775808 ≤ n) (h1 : n ≤ 9223372036854775807) (h2 : -9223372036854775808 ≤ d) (h3 : d ≤ 9223372036854775807) (w : World) :
    Calls Tryz.prog 18 #[.int .i64 n, .int .i64 d] w fun e w' => e = .returned (.tuple #[.int .i64 (Num.mk n d).1, .int .i64 (Num.mk n d).2.1, .int .i64 (Num.mk n d).2.2]) ∧ ∃ k, w' = w.drewN k := by
  by_cases hd : d = 0
  · subst hd
    go_enter Tryz.func18, Tryz.ntmps18
    go_wp2
    go_ret3
    exact ⟨ret_3p rfl, 0, rfl⟩
  · have hg := Num.gcd_ne (n := n) hd
    have hd0 : (d == 0) = false := by simpa using hd
    obtain ⟨G, hG⟩ : ∃ G, Int.gcd n d = G := ⟨_, rfl⟩
    obtain ⟨A, hA⟩ : ∃ A, n.natAbs / G = A := ⟨_, rfl⟩
    obtain ⟨B, hB⟩ : ∃ B, d.natAbs / G = B := ⟨_, rfl⟩
    rw [hG] at hg
    have HK : Hid (Num.mk n d = if 2147483647 < A ∨ 2147483647 < B then (0, 0, 3) else if n < 0 ↔ d < 0 then ((A : Int), (B : Int), 0) else (-(A : Int), (B : Int), 0)) := Lib.hid (by simp only [Num.mk, hd, if_false, hG, hA, hB])
    have b1 : A ≤ n.natAbs := by rw [← hA]; exact Nat.div_le_self _ _
    have b2 : B ≤ d.natAbs := by rw [← hB]; exact Nat.div_le_self _ _
    have q1 : ((n.natAbs : Int) / (G : Int)) = A := by rw [← hA]; rfl
    have q2 : ((d.natAbs : Int) / (G : Int)) = B := by rw [← hB]; rfl
    have HG := Lib.hid hG
    clear hG hA hB
    have hg0 : ((G : Int) == 0) = false := by simpa using hg
    cases hn : decide (n < 0) <;> cases hm : decide (d < 0)
    all_goals
      have hn2 := hn
      have hm2 := hm
      simp only [decide_eq_true_eq, decide_eq_false_iff_not, Int.not_lt] at hn2 hm2
      go_enter Tryz.func18, Tryz.ntmps18
      go_wp2_with (first | (go_at_call 37; refine (amount_any _ (by omega) (by omega) _).mono ?_; rintro e w' ⟨rfl, rfl⟩) | (go_at_call 38; refine (common_to _ _ G HG.out (by omega) (by omega) _).mono ?_; rintro e w' ⟨rfl, k, rfl⟩))
      go_quiet (fail)
      go_wp2
      all_goals
        go_ret3
        refine ⟨ret_3p (HK.out.trans ?_), by first | exact ⟨0, rfl⟩ | exact ⟨_, rfl⟩⟩
        first
          | (rw [if_pos (by omega)])
          | (rw [if_neg (by omega), if_pos (by omega)])
          | (rw [if_neg (by omega), if_neg (by omega)])

theorem rmake_any (n d : Int) (h0 : -9223372036854775808 ≤ n) (h1 : n ≤ 9223372036854775807) (h2 : -9223372036854775808 ≤ d) (h3 : d ≤ 9223372036854775807) (w : World) :
    Calls Tryz.prog 85 #[.int .i64 n, .int .i64 d] w fun e w' => e = .returned (.tuple #[.int .i64 (Num.mk n d).1, .int .i64 (Num.mk n d).2.1, .int .i64 (Num.mk n d).2.2]) ∧ ∃ k, w' = w.drewN k := by
  by_cases hd : d = 0
  · subst hd
    go_enter Tryz.func85, Tryz.ntmps85
    go_wp2
    go_ret3
    exact ⟨ret_3p rfl, 0, rfl⟩
  · have hg := Num.gcd_ne (n := n) hd
    have hd0 : (d == 0) = false := by simpa using hd
    obtain ⟨G, hG⟩ : ∃ G, Int.gcd n d = G := ⟨_, rfl⟩
    obtain ⟨A, hA⟩ : ∃ A, n.natAbs / G = A := ⟨_, rfl⟩
    obtain ⟨B, hB⟩ : ∃ B, d.natAbs / G = B := ⟨_, rfl⟩
    rw [hG] at hg
    have HK : Hid (Num.mk n d = if 2147483647 < A ∨ 2147483647 < B then (0, 0, 3) else if n < 0 ↔ d < 0 then ((A : Int), (B : Int), 0) else (-(A : Int), (B : Int), 0)) := Lib.hid (by simp only [Num.mk, hd, if_false, hG, hA, hB])
    have b1 : A ≤ n.natAbs := by rw [← hA]; exact Nat.div_le_self _ _
    have b2 : B ≤ d.natAbs := by rw [← hB]; exact Nat.div_le_self _ _
    have q1 : ((n.natAbs : Int) / (G : Int)) = A := by rw [← hA]; rfl
    have q2 : ((d.natAbs : Int) / (G : Int)) = B := by rw [← hB]; rfl
    have HG := Lib.hid hG
    clear hG hA hB
    have hg0 : ((G : Int) == 0) = false := by simpa using hg
    cases hn : decide (n < 0) <;> cases hm : decide (d < 0)
    all_goals
      have hn2 := hn
      have hm2 := hm
      simp only [decide_eq_true_eq, decide_eq_false_iff_not, Int.not_lt] at hn2 hm2
      go_enter Tryz.func85, Tryz.ntmps85
      go_wp2_with (first | (go_at_call 83; refine (rsize_any _ (by omega) (by omega) _).mono ?_; rintro e w' ⟨rfl, rfl⟩) | (go_at_call 82; refine (rgcd_to _ _ G HG.out (by omega) (by omega) _).mono ?_; rintro e w' ⟨rfl, rfl⟩))
      all_goals
        go_ret3
        refine ⟨ret_3p (HK.out.trans ?_), by first | exact ⟨0, rfl⟩ | exact ⟨_, rfl⟩⟩
        first
          | (rw [if_pos (by omega)])
          | (rw [if_neg (by omega), if_pos (by omega)])
          | (rw [if_neg (by omega), if_neg (by omega)])

end Go.Proofs.YtnpiekniignfcaaGreatDoor

namespace Go.Proofs.YtnpiekniignfcaaGreatDoor
open Go.RowKit

theorem both_any (n d m e : Int) (h0 : -9223372036854775808 ≤ n) (h1 : n ≤ 9223372036854775807) (h2 : -9223372036854775808 ≤ d) (h3 : d ≤ 9223372036854775807) (h4 : -9223372036854775808 ≤ m) (h5 : m ≤ 9223372036854775807) (h6 : -9223372036854775808 ≤ e) (h7 : e ≤ 9223372036854775807) (w : World) :
    Calls Tryz.prog 39 #[.int .i64 n, .int .i64 d, .int .i64 m, .int .i64 e] w fun e' w' => e' = .returned (.bool (Num.right n d && Num.right m e)) ∧ ∃ k, w' = w.drewN k := by
  cases hr : Num.right n d
  all_goals
    go_enter Tryz.func39, Tryz.ntmps39
    go_wp2_with (first | (go_at_call 63; refine (right_any _ _ (by omega) (by omega) (by omega) (by omega) _).mono ?_; rintro e' w' ⟨rfl, nk, rfl⟩))
    go_ret
    exact ⟨ret_bool (by simp), by first | exact ⟨0, rfl⟩ | exact ⟨_, rfl⟩ | (simp only [World.drewN_drewN]; exact ⟨_, rfl⟩)⟩

theorem add_any (n d m e : Int) (h0 : -9223372036854775808 ≤ n) (h1 : n ≤ 9223372036854775807) (h2 : -9223372036854775808 ≤ d) (h3 : d ≤ 9223372036854775807) (h4 : -9223372036854775808 ≤ m) (h5 : m ≤ 9223372036854775807) (h6 : -9223372036854775808 ≤ e) (h7 : e ≤ 9223372036854775807) (w : World) :
    Calls Tryz.prog 19 #[.int .i64 n, .int .i64 d, .int .i64 m, .int .i64 e] w fun e' w' => e' = .returned (.tuple #[.int .i64 (Num.add n d m e).1, .int .i64 (Num.add n d m e).2.1, .int .i64 (Num.add n d m e).2.2]) ∧ ∃ k, w' = w.drewN k := by
  cases hr : (Num.right n d && Num.right m e)
  · have HK := Lib.hid (show Num.add n d m e = (0, 0, 3) by simp [Num.add, hr])
    go_enter Tryz.func19, Tryz.ntmps19
    go_wp2_with (first | (go_at_call 39; refine (both_any _ _ _ _ (by omega) (by omega) (by omega) (by omega) (by omega) (by omega) (by omega) (by omega) _).mono ?_; rintro e' w' ⟨rfl, nk, rfl⟩))
    go_ret3
    exact ⟨ret_3p HK.out, by first | exact ⟨0, rfl⟩ | exact ⟨_, rfl⟩ | (simp only [World.drewN_drewN]; exact ⟨_, rfl⟩)⟩
  · have hb := hr
    rw [Bool.and_eq_true, Num.right_iff, Num.right_iff] at hb
    obtain ⟨⟨d1, d2, n1, n2, _⟩, e1, e2, m1, m2, _⟩ := hb
    have p1 := Num.mul_bd (a := n) (b := e) (by omega) (by omega) (by omega) (by omega)
    have p2 := Num.mul_bd (a := m) (b := d) (by omega) (by omega) (by omega) (by omega)
    have p3 := Num.mul_bd (a := d) (b := e) (by omega) (by omega) (by omega) (by omega)
    have p4 := Num.mul_bd (a := n) (b := m) (by omega) (by omega) (by omega) (by omega)
    have p5 := Num.mul_bd (a := d) (b := m) (by omega) (by omega) (by omega) (by omega)
    have HK := Lib.hid (show Num.add n d m e = Num.mk (n * e + m * d) (d * e) by simp [Num.add, hr])
    go_enter Tryz.func19, Tryz.ntmps19
    go_wp2_with (first | (go_at_call 39; refine (both_any _ _ _ _ (by omega) (by omega) (by omega) (by omega) (by omega) (by omega) (by omega) (by omega) _).mono ?_; rintro e' w' ⟨rfl, nk, rfl⟩) | (go_at_call 18; refine (make_any _ _ (by omega) (by omega) (by omega) (by omega) _).mono ?_; rintro e' w' ⟨rfl, nk, rfl⟩))
    go_ret3
    exact ⟨ret_3p HK.out, by first | exact ⟨0, rfl⟩ | exact ⟨_, rfl⟩ | (simp only [World.drewN_drewN]; exact ⟨_, rfl⟩)⟩

theorem sub_any (n d m e : Int) (h0 : -9223372036854775808 ≤ n) (h1 : n ≤ 9223372036854775807) (h2 : -9223372036854775808 ≤ d) (h3 : d ≤ 9223372036854775807) (h4 : -9223372036854775808 ≤ m) (h5 : m ≤ 9223372036854775807) (h6 : -9223372036854775808 ≤ e) (h7 : e ≤ 9223372036854775807) (w : World) :
    Calls Tryz.prog 80 #[.int .i64 n, .int .i64 d, .int .i64 m, .int .i64 e] w fun e' w' => e' = .returned (.tuple #[.int .i64 (Num.sub n d m e).1, .int .i64 (Num.sub n d m e).2.1, .int .i64 (Num.sub n d m e).2.2]) ∧ ∃ k, w' = w.drewN k := by
  cases hr : (Num.right n d && Num.right m e)
  · have HK := Lib.hid (show Num.sub n d m e = (0, 0, 3) by simp [Num.sub, hr])
    go_enter Tryz.func80, Tryz.ntmps80
    go_wp2_with (first | (go_at_call 39; refine (both_any _ _ _ _ (by omega) (by omega) (by omega) (by omega) (by omega) (by omega) (by omega) (by omega) _).mono ?_; rintro e' w' ⟨rfl, nk, rfl⟩))
    go_ret3
    exact ⟨ret_3p HK.out, by first | exact ⟨0, rfl⟩ | exact ⟨_, rfl⟩ | (simp only [World.drewN_drewN]; exact ⟨_, rfl⟩)⟩
  · have hb := hr
    rw [Bool.and_eq_true, Num.right_iff, Num.right_iff] at hb
    obtain ⟨⟨d1, d2, n1, n2, _⟩, e1, e2, m1, m2, _⟩ := hb
    have p1 := Num.mul_bd (a := n) (b := e) (by omega) (by omega) (by omega) (by omega)
    have p2 := Num.mul_bd (a := m) (b := d) (by omega) (by omega) (by omega) (by omega)
    have p3 := Num.mul_bd (a := d) (b := e) (by omega) (by omega) (by omega) (by omega)
    have p4 := Num.mul_bd (a := n) (b := m) (by omega) (by omega) (by omega) (by omega)
    have p5 := Num.mul_bd (a := d) (b := m) (by omega) (by omega) (by omega) (by omega)
    have HK := Lib.hid (show Num.sub n d m e = Num.mk (n * e - m * d) (d * e) by simp [Num.sub, hr])
    go_enter Tryz.func80, Tryz.ntmps80
    go_wp2_with (first | (go_at_call 39; refine (both_any _ _ _ _ (by omega) (by omega) (by omega) (by omega) (by omega) (by omega) (by omega) (by omega) _).mono ?_; rintro e' w' ⟨rfl, nk, rfl⟩) | (go_at_call 18; refine (make_any _ _ (by omega) (by omega) (by omega) (by omega) _).mono ?_; rintro e' w' ⟨rfl, nk, rfl⟩))
    go_ret3
    exact ⟨ret_3p HK.out, by first | exact ⟨0, rfl⟩ | exact ⟨_, rfl⟩ | (simp only [World.drewN_drewN]; exact ⟨_, rfl⟩)⟩

theorem mul_any (n d m e : Int) (h0 : -9223372036854775808 ≤ n) (h1 : n ≤ 9223372036854775807) (h2 : -9223372036854775808 ≤ d) (h3 : d ≤ 9223372036854775807) (h4 : -9223372036854775808 ≤ m) (h5 : m ≤ 9223372036854775807) (h6 : -9223372036854775808 ≤ e) (h7 : e ≤ 9223372036854775807) (w : World) :
    Calls Tryz.prog 20 #[.int .i64 n, .int .i64 d, .int .i64 m, .int .i64 e] w fun e' w' => e' = .returned (.tuple #[.int .i64 (Num.mul n d m e).1, .int .i64 (Num.mul n d m e).2.1, .int .i64 (Num.mul n d m e).2.2]) ∧ ∃ k, w' = w.drewN k := by
  cases hr : (Num.right n d && Num.right m e)
  · have HK := Lib.hid (show Num.mul n d m e = (0, 0, 3) by simp [Num.mul, hr])
    go_enter Tryz.func20, Tryz.ntmps20
    go_wp2_with (first | (go_at_call 39; refine (both_any _ _ _ _ (by omega) (by omega) (by omega) (by omega) (by omega) (by omega) (by omega) (by omega) _).mono ?_; rintro e' w' ⟨rfl, nk, rfl⟩))
    go_ret3
    exact ⟨ret_3p HK.out, by first | exact ⟨0, rfl⟩ | exact ⟨_, rfl⟩ | (simp only [World.drewN_drewN]; exact ⟨_, rfl⟩)⟩
  · have hb := hr
    rw [Bool.and_eq_true, Num.right_iff, Num.right_iff] at hb
    obtain ⟨⟨d1, d2, n1, n2, _⟩, e1, e2, m1, m2, _⟩ := hb
    have p1 := Num.mul_bd (a := n) (b := e) (by omega) (by omega) (by omega) (by omega)
    have p2 := Num.mul_bd (a := m) (b := d) (by omega) (by omega) (by omega) (by omega)
    have p3 := Num.mul_bd (a := d) (b := e) (by omega) (by omega) (by omega) (by omega)
    have p4 := Num.mul_bd (a := n) (b := m) (by omega) (by omega) (by omega) (by omega)
    have p5 := Num.mul_bd (a := d) (b := m) (by omega) (by omega) (by omega) (by omega)
    have HK := Lib.hid (show Num.mul n d m e = Num.mk (n * m) (d * e) by simp [Num.mul, hr])
    go_enter Tryz.func20, Tryz.ntmps20
    go_wp2_with (first | (go_at_call 39; refine (both_any _ _ _ _ (by omega) (by omega) (by omega) (by omega) (by omega) (by omega) (by omega) (by omega) _).mono ?_; rintro e' w' ⟨rfl, nk, rfl⟩) | (go_at_call 18; refine (make_any _ _ (by omega) (by omega) (by omega) (by omega) _).mono ?_; rintro e' w' ⟨rfl, nk, rfl⟩))
    go_ret3
    exact ⟨ret_3p HK.out, by first | exact ⟨0, rfl⟩ | exact ⟨_, rfl⟩ | (simp only [World.drewN_drewN]; exact ⟨_, rfl⟩)⟩

theorem div_any (n d m e : Int) (h0 : -9223372036854775808 ≤ n) (h1 : n ≤ 9223372036854775807) (h2 : -9223372036854775808 ≤ d) (h3 : d ≤ 9223372036854775807) (h4 : -9223372036854775808 ≤ m) (h5 : m ≤ 9223372036854775807) (h6 : -9223372036854775808 ≤ e) (h7 : e ≤ 9223372036854775807) (w : World) :
    Calls Tryz.prog 81 #[.int .i64 n, .int .i64 d, .int .i64 m, .int .i64 e] w fun e' w' => e' = .returned (.tuple #[.int .i64 (Num.div n d m e).1, .int .i64 (Num.div n d m e).2.1, .int .i64 (Num.div n d m e).2.2]) ∧ ∃ k, w' = w.drewN k := by
  cases hr : (Num.right n d && Num.right m e)
  · have HK := Lib.hid (show Num.div n d m e = (0, 0, 3) by simp [Num.div, hr])
    go_enter Tryz.func81, Tryz.ntmps81
    go_wp2_with (first | (go_at_call 39; refine (both_any _ _ _ _ (by omega) (by omega) (by omega) (by omega) (by omega) (by omega) (by omega) (by omega) _).mono ?_; rintro e' w' ⟨rfl, nk, rfl⟩))
    go_ret3
    exact ⟨ret_3p HK.out, by first | exact ⟨0, rfl⟩ | exact ⟨_, rfl⟩ | (simp only [World.drewN_drewN]; exact ⟨_, rfl⟩)⟩
  · have hb := hr
    rw [Bool.and_eq_true, Num.right_iff, Num.right_iff] at hb
    obtain ⟨⟨d1, d2, n1, n2, _⟩, e1, e2, m1, m2, _⟩ := hb
    have p1 := Num.mul_bd (a := n) (b := e) (by omega) (by omega) (by omega) (by omega)
    have p2 := Num.mul_bd (a := m) (b := d) (by omega) (by omega) (by omega) (by omega)
    have p3 := Num.mul_bd (a := d) (b := e) (by omega) (by omega) (by omega) (by omega)
    have p4 := Num.mul_bd (a := n) (b := m) (by omega) (by omega) (by omega) (by omega)
    have p5 := Num.mul_bd (a := d) (b := m) (by omega) (by omega) (by omega) (by omega)
    have HK := Lib.hid (show Num.div n d m e = Num.mk (n * e) (d * m) by simp [Num.div, hr])
    go_enter Tryz.func81, Tryz.ntmps81
    go_wp2_with (first | (go_at_call 39; refine (both_any _ _ _ _ (by omega) (by omega) (by omega) (by omega) (by omega) (by omega) (by omega) (by omega) _).mono ?_; rintro e' w' ⟨rfl, nk, rfl⟩) | (go_at_call 18; refine (make_any _ _ (by omega) (by omega) (by omega) (by omega) _).mono ?_; rintro e' w' ⟨rfl, nk, rfl⟩))
    go_ret3
    exact ⟨ret_3p HK.out, by first | exact ⟨0, rfl⟩ | exact ⟨_, rfl⟩ | (simp only [World.drewN_drewN]; exact ⟨_, rfl⟩)⟩

theorem less_any (n d m e : Int) (h0 : -9223372036854775808 ≤ n) (h1 : n ≤ 9223372036854775807) (h2 : -9223372036854775808 ≤ d) (h3 : d ≤ 9223372036854775807) (h4 : -9223372036854775808 ≤ m) (h5 : m ≤ 9223372036854775807) (h6 : -9223372036854775808 ≤ e) (h7 : e ≤ 9223372036854775807) (w : World) :
    Calls Tryz.prog 48 #[.int .i64 n, .int .i64 d, .int .i64 m, .int .i64 e] w fun e' w' => e' = .returned (.bool (Num.less n d m e)) ∧ ∃ k, w' = w.drewN k := by
  cases hr : (Num.right n d && Num.right m e)
  · have HK := Lib.hid (show Num.less n d m e = false by simp only [Num.less, hr, Bool.false_and])
    go_enter Tryz.func48, Tryz.ntmps48
    go_wp2_with (first | (go_at_call 39; refine (both_any _ _ _ _ (by omega) (by omega) (by omega) (by omega) (by omega) (by omega) (by omega) (by omega) _).mono ?_; rintro e' w' ⟨rfl, nk, rfl⟩))
    go_ret
    exact ⟨ret_bool HK.out.symm, by first | exact ⟨0, rfl⟩ | exact ⟨_, rfl⟩ | (simp only [World.drewN_drewN]; exact ⟨_, rfl⟩)⟩
  · have hb := hr
    rw [Bool.and_eq_true, Num.right_iff, Num.right_iff] at hb
    obtain ⟨⟨d1, d2, n1, n2, _⟩, e1, e2, m1, m2, _⟩ := hb
    have p1 := Num.mul_bd (a := n) (b := e) (by omega) (by omega) (by omega) (by omega)
    have p2 := Num.mul_bd (a := m) (b := d) (by omega) (by omega) (by omega) (by omega)
    have p3 := Num.mul_bd (a := d) (b := e) (by omega) (by omega) (by omega) (by omega)
    have p4 := Num.mul_bd (a := n) (b := m) (by omega) (by omega) (by omega) (by omega)
    have p5 := Num.mul_bd (a := d) (b := m) (by omega) (by omega) (by omega) (by omega)
    have HK := Lib.hid (show Num.less n d m e = decide (n * e < m * d) by simp only [Num.less, hr, Bool.true_and])
    go_enter Tryz.func48, Tryz.ntmps48
    go_wp2_with (first | (go_at_call 39; refine (both_any _ _ _ _ (by omega) (by omega) (by omega) (by omega) (by omega) (by omega) (by omega) (by omega) _).mono ?_; rintro e' w' ⟨rfl, nk, rfl⟩))
    go_ret
    exact ⟨ret_bool HK.out.symm, by first | exact ⟨0, rfl⟩ | exact ⟨_, rfl⟩ | (simp only [World.drewN_drewN]; exact ⟨_, rfl⟩)⟩

end Go.Proofs.YtnpiekniignfcaaGreatDoor

namespace Go.Proofs.YtnpiekniignfcaaGreatDoor
open Go.RowKit

theorem radd_any (n d m e : Int) (h0 : -9223372036854775808 ≤ n) (h1 : n ≤ 9223372036854775807) (h2 : -9223372036854775808 ≤ d) (h3 : d ≤ 9223372036854775807) (h4 : -9223372036854775808 ≤ m) (h5 : m ≤ 9223372036854775807) (h6 : -9223372036854775808 ≤ e) (h7 : e ≤ 9223372036854775807) (w : World) :
    Calls Tryz.prog 73 #[.int .i64 n, .int .i64 d, .int .i64 m, .int .i64 e] w fun e' w' => e' = .returned (.tuple #[.int .i64 (Num.add n d m e).1, .int .i64 (Num.add n d m e).2.1, .int .i64 (Num.add n d m e).2.2]) ∧ ∃ k, w' = w.drewN k := by
  cases hr : Num.right n d
  · have HK := Lib.hid (show Num.add n d m e = (0, 0, 3) by simp [Num.add, hr])
    go_enter Tryz.func73, Tryz.ntmps73
    go_wp2_with (first | (go_at_call 71; refine (rright_any _ _ (by omega) (by omega) (by omega) (by omega) _).mono ?_; rintro e' w' ⟨rfl, nk, rfl⟩))
    go_ret3
    exact ⟨ret_3p HK.out, by first | exact ⟨0, rfl⟩ | exact ⟨_, rfl⟩ | (simp only [World.drewN_drewN]; exact ⟨_, rfl⟩)⟩
  cases hs : Num.right m e
  · have HK := Lib.hid (show Num.add n d m e = (0, 0, 3) by simp [Num.add, hs])
    go_enter Tryz.func73, Tryz.ntmps73
    go_wp2_with (first | (go_at_call 71; refine (rright_any _ _ (by omega) (by omega) (by omega) (by omega) _).mono ?_; rintro e' w' ⟨rfl, nk, rfl⟩))
    go_ret3
    exact ⟨ret_3p HK.out, by first | exact ⟨0, rfl⟩ | exact ⟨_, rfl⟩ | (simp only [World.drewN_drewN]; exact ⟨_, rfl⟩)⟩
  · have hb : Num.right n d = true ∧ Num.right m e = true := ⟨hr, hs⟩
    rw [Num.right_iff, Num.right_iff] at hb
    obtain ⟨⟨d1, d2, n1, n2, _⟩, e1, e2, m1, m2, _⟩ := hb
    have p1 := Num.mul_bd (a := n) (b := e) (by omega) (by omega) (by omega) (by omega)
    have p2 := Num.mul_bd (a := m) (b := d) (by omega) (by omega) (by omega) (by omega)
    have p3 := Num.mul_bd (a := d) (b := e) (by omega) (by omega) (by omega) (by omega)
    have p4 := Num.mul_bd (a := n) (b := m) (by omega) (by omega) (by omega) (by omega)
    have p5 := Num.mul_bd (a := d) (b := m) (by omega) (by omega) (by omega) (by omega)
    have HK := Lib.hid (show Num.add n d m e = Num.mk (n * e + m * d) (d * e) by simp [Num.add, hr, hs])
    go_enter Tryz.func73, Tryz.ntmps73
    go_wp2_with (first | (go_at_call 71; refine (rright_any _ _ (by omega) (by omega) (by omega) (by omega) _).mono ?_; rintro e' w' ⟨rfl, nk, rfl⟩) | (go_at_call 85; refine (rmake_any _ _ (by omega) (by omega) (by omega) (by omega) _).mono ?_; rintro e' w' ⟨rfl, nk, rfl⟩))
    go_ret3
    exact ⟨ret_3p HK.out, by first | exact ⟨0, rfl⟩ | exact ⟨_, rfl⟩ | (simp only [World.drewN_drewN]; exact ⟨_, rfl⟩)⟩

theorem rsub_any (n d m e : Int) (h0 : -9223372036854775808 ≤ n) (h1 : n ≤ 9223372036854775807) (h2 : -9223372036854775808 ≤ d) (h3 : d ≤ 9223372036854775807) (h4 : -9223372036854775808 ≤ m) (h5 : m ≤ 9223372036854775807) (h6 : -9223372036854775808 ≤ e) (h7 : e ≤ 9223372036854775807) (w : World) :
    Calls Tryz.prog 74 #[.int .i64 n, .int .i64 d, .int .i64 m, .int .i64 e] w fun e' w' => e' = .returned (.tuple #[.int .i64 (Num.rsub n d m e).1, .int .i64 (Num.rsub n d m e).2.1, .int .i64 (Num.rsub n d m e).2.2]) ∧ ∃ k, w' = w.drewN k := by
  cases hr : Num.right n d
  · have HK := Lib.hid (show Num.rsub n d m e = (0, 0, 3) by simp [Num.rsub, hr])
    go_enter Tryz.func74, Tryz.ntmps74
    go_wp2_with (first | (go_at_call 71; refine (rright_any _ _ (by omega) (by omega) (by omega) (by omega) _).mono ?_; rintro e' w' ⟨rfl, nk, rfl⟩))
    go_ret3
    exact ⟨ret_3p HK.out, by first | exact ⟨0, rfl⟩ | exact ⟨_, rfl⟩ | (simp only [World.drewN_drewN]; exact ⟨_, rfl⟩)⟩
  cases hs : Num.right m e
  · have HK := Lib.hid (show Num.rsub n d m e = (0, 0, 3) by simp [Num.rsub, hs])
    go_enter Tryz.func74, Tryz.ntmps74
    go_wp2_with (first | (go_at_call 71; refine (rright_any _ _ (by omega) (by omega) (by omega) (by omega) _).mono ?_; rintro e' w' ⟨rfl, nk, rfl⟩))
    go_ret3
    exact ⟨ret_3p HK.out, by first | exact ⟨0, rfl⟩ | exact ⟨_, rfl⟩ | (simp only [World.drewN_drewN]; exact ⟨_, rfl⟩)⟩
  · have hb : Num.right n d = true ∧ Num.right m e = true := ⟨hr, hs⟩
    rw [Num.right_iff, Num.right_iff] at hb
    obtain ⟨⟨d1, d2, n1, n2, _⟩, e1, e2, m1, m2, _⟩ := hb
    have p1 := Num.mul_bd (a := n) (b := e) (by omega) (by omega) (by omega) (by omega)
    have p2 := Num.mul_bd (a := m) (b := d) (by omega) (by omega) (by omega) (by omega)
    have p3 := Num.mul_bd (a := d) (b := e) (by omega) (by omega) (by omega) (by omega)
    have p4 := Num.mul_bd (a := n) (b := m) (by omega) (by omega) (by omega) (by omega)
    have p5 := Num.mul_bd (a := d) (b := m) (by omega) (by omega) (by omega) (by omega)
    have HK := Lib.hid (show Num.rsub n d m e = Num.add n d (-m) e by simp [Num.rsub, hr, hs])
    go_enter Tryz.func74, Tryz.ntmps74
    go_wp2_with (first | (go_at_call 71; refine (rright_any _ _ (by omega) (by omega) (by omega) (by omega) _).mono ?_; rintro e' w' ⟨rfl, nk, rfl⟩) | (go_at_call 73; refine (radd_any _ _ _ _ (by omega) (by omega) (by omega) (by omega) (by omega) (by omega) (by omega) (by omega) _).mono ?_; rintro e' w' ⟨rfl, nk, rfl⟩))
    go_ret3
    exact ⟨ret_3p HK.out, by first | exact ⟨0, rfl⟩ | exact ⟨_, rfl⟩ | (simp only [World.drewN_drewN]; exact ⟨_, rfl⟩)⟩

theorem rless_any (n d m e : Int) (h0 : -9223372036854775808 ≤ n) (h1 : n ≤ 9223372036854775807) (h2 : -9223372036854775808 ≤ d) (h3 : d ≤ 9223372036854775807) (h4 : -9223372036854775808 ≤ m) (h5 : m ≤ 9223372036854775807) (h6 : -9223372036854775808 ≤ e) (h7 : e ≤ 9223372036854775807) (w : World) :
    Calls Tryz.prog 58 #[.int .i64 n, .int .i64 d, .int .i64 m, .int .i64 e] w fun e' w' => e' = .returned (.bool (Num.less n d m e)) ∧ ∃ k, w' = w.drewN k := by
  cases hr : Num.right n d
  · have HK := Lib.hid (show Num.less n d m e = false by simp [Num.less, hr])
    go_enter Tryz.func58, Tryz.ntmps58
    go_wp2_with (first | (go_at_call 71; refine (rright_any _ _ (by omega) (by omega) (by omega) (by omega) _).mono ?_; rintro e' w' ⟨rfl, nk, rfl⟩))
    go_ret
    exact ⟨ret_bool HK.out.symm, by first | exact ⟨0, rfl⟩ | exact ⟨_, rfl⟩ | (simp only [World.drewN_drewN]; exact ⟨_, rfl⟩)⟩
  cases hs : Num.right m e
  · have HK := Lib.hid (show Num.less n d m e = false by simp [Num.less, hs])
    go_enter Tryz.func58, Tryz.ntmps58
    go_wp2_with (first | (go_at_call 71; refine (rright_any _ _ (by omega) (by omega) (by omega) (by omega) _).mono ?_; rintro e' w' ⟨rfl, nk, rfl⟩))
    go_ret
    exact ⟨ret_bool HK.out.symm, by first | exact ⟨0, rfl⟩ | exact ⟨_, rfl⟩ | (simp only [World.drewN_drewN]; exact ⟨_, rfl⟩)⟩
  · have hb : Num.right n d = true ∧ Num.right m e = true := ⟨hr, hs⟩
    rw [Num.right_iff, Num.right_iff] at hb
    obtain ⟨⟨d1, d2, n1, n2, _⟩, e1, e2, m1, m2, _⟩ := hb
    have p1 := Num.mul_bd (a := n) (b := e) (by omega) (by omega) (by omega) (by omega)
    have p2 := Num.mul_bd (a := m) (b := d) (by omega) (by omega) (by omega) (by omega)
    have p3 := Num.mul_bd (a := d) (b := e) (by omega) (by omega) (by omega) (by omega)
    have p4 := Num.mul_bd (a := n) (b := m) (by omega) (by omega) (by omega) (by omega)
    have p5 := Num.mul_bd (a := d) (b := m) (by omega) (by omega) (by omega) (by omega)
    have HK := Lib.hid (show Num.less n d m e = decide (n * e < m * d) by simp only [Num.less, hr, hs, Bool.true_and])
    go_enter Tryz.func58, Tryz.ntmps58
    go_wp2_with (first | (go_at_call 71; refine (rright_any _ _ (by omega) (by omega) (by omega) (by omega) _).mono ?_; rintro e' w' ⟨rfl, nk, rfl⟩))
    go_ret
    exact ⟨ret_bool HK.out.symm, by first | exact ⟨0, rfl⟩ | exact ⟨_, rfl⟩ | (simp only [World.drewN_drewN]; exact ⟨_, rfl⟩)⟩

theorem rgcd_to' (n d : Int) (G : Nat) (hG : Int.gcd n d = G) (h0 : n.natAbs ≤ 9223372036854775808) (h1 : 0 ≤ d) (h2 : d.natAbs ≤ 9223372036854775808) (w : World) :
    Calls Tryz.prog 82 #[.int .u64 n.natAbs, .int .u64 d] w fun e w' => e = .returned (.int .u64 G) ∧ w = w' := by
  refine (rgcd_int _ _ (by omega) (by omega) (by omega) (by omega) w).mono ?_
  rintro e w' ⟨rfl, k⟩
  exact ⟨by rw [← hG]; simp [Int.gcd], k⟩

theorem rmul_any (n d m e : Int) (h0 : -9223372036854775808 ≤ n) (h1 : n ≤ 9223372036854775807) (h2 : -9223372036854775808 ≤ d) (h3 : d ≤ 9223372036854775807) (h4 : -9223372036854775808 ≤ m) (h5 : m ≤ 9223372036854775807) (h6 : -9223372036854775808 ≤ e) (h7 : e ≤ 9223372036854775807) (w : World) :
    Calls Tryz.prog 75 #[.int .i64 n, .int .i64 d, .int .i64 m, .int .i64 e] w fun e' w' => e' = .returned (.tuple #[.int .i64 (Num.rmul n d m e).1, .int .i64 (Num.rmul n d m e).2.1, .int .i64 (Num.rmul n d m e).2.2]) ∧ ∃ k, w' = w.drewN k := by
  cases hr : Num.right n d
  · have HK := Lib.hid (show Num.rmul n d m e = (0, 0, 3) by simp [Num.rmul, hr])
    go_enter Tryz.func75, Tryz.ntmps75
    go_wp2_with (first | (go_at_call 71; refine (rright_any _ _ (by omega) (by omega) (by omega) (by omega) _).mono ?_; rintro e' w' ⟨rfl, nk, rfl⟩))
    go_ret3
    exact ⟨ret_3p HK.out, by first | exact ⟨0, rfl⟩ | exact ⟨_, rfl⟩ | (simp only [World.drewN_drewN]; exact ⟨_, rfl⟩)⟩
  cases hs : Num.right m e
  · have HK := Lib.hid (show Num.rmul n d m e = (0, 0, 3) by simp [Num.rmul, hs])
    go_enter Tryz.func75, Tryz.ntmps75
    go_wp2_with (first | (go_at_call 71; refine (rright_any _ _ (by omega) (by omega) (by omega) (by omega) _).mono ?_; rintro e' w' ⟨rfl, nk, rfl⟩))
    go_ret3
    exact ⟨ret_3p HK.out, by first | exact ⟨0, rfl⟩ | exact ⟨_, rfl⟩ | (simp only [World.drewN_drewN]; exact ⟨_, rfl⟩)⟩
  · have hb : Num.right n d = true ∧ Num.right m e = true := ⟨hr, hs⟩
    rw [Num.right_iff, Num.right_iff] at hb
    obtain ⟨⟨d1, d2, n1, n2, _⟩, e1, e2, m1, m2, _⟩ := hb
    have p1 := Num.mul_bd (a := n) (b := e) (by omega) (by omega) (by omega) (by omega)
    have p2 := Num.mul_bd (a := m) (b := d) (by omega) (by omega) (by omega) (by omega)
    have p3 := Num.mul_bd (a := d) (b := e) (by omega) (by omega) (by omega) (by omega)
    have p4 := Num.mul_bd (a := n) (b := m) (by omega) (by omega) (by omega) (by omega)
    have p5 := Num.mul_bd (a := d) (b := m) (by omega) (by omega) (by omega) (by omega)
    have hg := Num.gcd_ne (n := n) (d := e) (by omega)
    have hh := Num.gcd_ne (n := m) (d := d) (by omega)
    have gl := Num.gcd_le (n := n) (d := e) (by omega)
    have hl := Num.gcd_le (n := m) (d := d) (by omega)
    have t1 := Num.tdiv_bd (n := n) (g := Int.gcd n e) (by omega) (by omega)
    have t2 := Num.tdiv_bd (n := m) (g := Int.gcd m d) (by omega) (by omega)
    have t3 := Num.tdiv_bd (n := d) (g := Int.gcd m d) (by omega) (by omega)
    have t4 := Num.tdiv_bd (n := e) (g := Int.gcd n e) (by omega) (by omega)
    have q1 := Num.mul_bd t1.1 t1.2 t2.1 t2.2
    have q2 := Num.mul_bd t3.1 t3.2 t4.1 t4.2
    have HK := Lib.hid (show Num.rmul n d m e = Num.mk (n.tdiv (Int.gcd n e) * m.tdiv (Int.gcd m d)) (d.tdiv (Int.gcd m d) * e.tdiv (Int.gcd n e)) by simp only [Num.rmul, hr, hs, Bool.and_true, if_true])
    generalize hG : Int.gcd n e = G at *
    generalize hH : Int.gcd m d = H at *
    have HG := Lib.hid hG
    have HH := Lib.hid hH
    clear hG hH
    have u1 : d / (H : Int) = d.tdiv H := (Int.tdiv_eq_ediv_of_nonneg (by omega)).symm
    have u2 : e / (G : Int) = e.tdiv G := (Int.tdiv_eq_ediv_of_nonneg (by omega)).symm
    generalize hN1 : n.tdiv G = N1 at *
    generalize hM1 : m.tdiv H = M1 at *
    generalize hD1 : d.tdiv H = D1 at *
    generalize hE1 : e.tdiv G = E1 at *
    have hg0 : ((G : Int) == 0) = false := by simpa using hg
    have hh0 : ((H : Int) == 0) = false := by simpa using hh
    go_enter Tryz.func75, Tryz.ntmps75
    go_wp2_with (first | (go_at_call 71; refine (rright_any _ _ (by omega) (by omega) (by omega) (by omega) _).mono ?_; rintro e' w' ⟨rfl, nk, rfl⟩) | (go_at_call 83; refine (rsize_any _ (by omega) (by omega) _).mono ?_; rintro e' w' ⟨rfl, rfl⟩) | (go_at_call 82; ((with_reducible refine (rgcd_to' n e G HG.out (by omega) (by omega) (by omega) _).mono ?_); rintro e' w' ⟨rfl, rfl⟩)) | (go_at_call 82; ((with_reducible refine (rgcd_to' m d H HH.out (by omega) (by omega) (by omega) _).mono ?_); rintro e' w' ⟨rfl, rfl⟩)))
    go_quiet ((go_at_call 85; exact quiet_of2 (rmake_any _ _ (by omega) (by omega) (by omega) (by omega) _)))
    go_wp2
    go_ret3
    exact ⟨ret_3p HK.out, by first | exact ⟨0, rfl⟩ | exact ⟨_, rfl⟩ | (simp only [World.drewN_drewN]; exact ⟨_, rfl⟩)⟩

theorem rdiv_any (n d m e : Int) (h0 : -9223372036854775808 ≤ n) (h1 : n ≤ 9223372036854775807) (h2 : -9223372036854775808 ≤ d) (h3 : d ≤ 9223372036854775807) (h4 : -9223372036854775808 ≤ m) (h5 : m ≤ 9223372036854775807) (h6 : -9223372036854775808 ≤ e) (h7 : e ≤ 9223372036854775807) (w : World) :
    Calls Tryz.prog 76 #[.int .i64 n, .int .i64 d, .int .i64 m, .int .i64 e] w fun e' w' => e' = .returned (.tuple #[.int .i64 (Num.rdiv n d m e).1, .int .i64 (Num.rdiv n d m e).2.1, .int .i64 (Num.rdiv n d m e).2.2]) ∧ ∃ k, w' = w.drewN k := by
  cases hr : Num.right n d
  · have HK := Lib.hid (show Num.rdiv n d m e = (0, 0, 3) by simp [Num.rdiv, hr])
    go_enter Tryz.func76, Tryz.ntmps76
    go_wp2_with (first | (go_at_call 71; refine (rright_any _ _ (by omega) (by omega) (by omega) (by omega) _).mono ?_; rintro e' w' ⟨rfl, nk, rfl⟩))
    go_ret3
    exact ⟨ret_3p HK.out, by first | exact ⟨0, rfl⟩ | exact ⟨_, rfl⟩ | (simp only [World.drewN_drewN]; exact ⟨_, rfl⟩)⟩
  cases hs : Num.right m e
  · have HK := Lib.hid (show Num.rdiv n d m e = (0, 0, 3) by simp [Num.rdiv, hs])
    go_enter Tryz.func76, Tryz.ntmps76
    go_wp2_with (first | (go_at_call 71; refine (rright_any _ _ (by omega) (by omega) (by omega) (by omega) _).mono ?_; rintro e' w' ⟨rfl, nk, rfl⟩))
    go_ret3
    exact ⟨ret_3p HK.out, by first | exact ⟨0, rfl⟩ | exact ⟨_, rfl⟩ | (simp only [World.drewN_drewN]; exact ⟨_, rfl⟩)⟩
  · have hb : Num.right n d = true ∧ Num.right m e = true := ⟨hr, hs⟩
    rw [Num.right_iff, Num.right_iff] at hb
    obtain ⟨⟨d1, d2, n1, n2, _⟩, e1, e2, m1, m2, _⟩ := hb
    have p1 := Num.mul_bd (a := n) (b := e) (by omega) (by omega) (by omega) (by omega)
    have p2 := Num.mul_bd (a := m) (b := d) (by omega) (by omega) (by omega) (by omega)
    have p3 := Num.mul_bd (a := d) (b := e) (by omega) (by omega) (by omega) (by omega)
    have p4 := Num.mul_bd (a := n) (b := m) (by omega) (by omega) (by omega) (by omega)
    have p5 := Num.mul_bd (a := d) (b := m) (by omega) (by omega) (by omega) (by omega)
    by_cases hm : m = 0
    · subst hm
      have HK := Lib.hid (show Num.rdiv n d 0 e = (0, 0, 4) by simp [Num.rdiv, hr, hs])
      go_enter Tryz.func76, Tryz.ntmps76
      go_wp2_with (first | (go_at_call 71; refine (rright_any _ _ (by omega) (by omega) (by omega) (by omega) _).mono ?_; rintro e' w' ⟨rfl, nk, rfl⟩))
      go_ret3
      exact ⟨ret_3p HK.out, by first | exact ⟨0, rfl⟩ | exact ⟨_, rfl⟩ | (simp only [World.drewN_drewN]; exact ⟨_, rfl⟩)⟩
    have hm0 : (m == 0) = false := by simpa using hm
    by_cases hl : m < 0
    · have HK := Lib.hid (show Num.rdiv n d m e = Num.rmul n d (-e) (-m) by simp [Num.rdiv, hr, hs, hm, hl])
      go_enter Tryz.func76, Tryz.ntmps76
      go_wp2_with (first | (go_at_call 71; refine (rright_any _ _ (by omega) (by omega) (by omega) (by omega) _).mono ?_; rintro e' w' ⟨rfl, nk, rfl⟩) | (go_at_call 75; refine (rmul_any _ _ _ _ (by omega) (by omega) (by omega) (by omega) (by omega) (by omega) (by omega) (by omega) _).mono ?_; rintro e' w' ⟨rfl, nk, rfl⟩))
      go_ret3
      exact ⟨ret_3p HK.out, by first | exact ⟨0, rfl⟩ | exact ⟨_, rfl⟩ | (simp only [World.drewN_drewN]; exact ⟨_, rfl⟩)⟩
    · have HK := Lib.hid (show Num.rdiv n d m e = Num.rmul n d e m by simp [Num.rdiv, hr, hs, hm, hl])
      go_enter Tryz.func76, Tryz.ntmps76
      go_wp2_with (first | (go_at_call 71; refine (rright_any _ _ (by omega) (by omega) (by omega) (by omega) _).mono ?_; rintro e' w' ⟨rfl, nk, rfl⟩) | (go_at_call 75; refine (rmul_any _ _ _ _ (by omega) (by omega) (by omega) (by omega) (by omega) (by omega) (by omega) (by omega) _).mono ?_; rintro e' w' ⟨rfl, nk, rfl⟩))
      go_ret3
      exact ⟨ret_3p HK.out, by first | exact ⟨0, rfl⟩ | exact ⟨_, rfl⟩ | (simp only [World.drewN_drewN]; exact ⟨_, rfl⟩)⟩

end Go.Proofs.YtnpiekniignfcaaGreatDoor

namespace Go.Proofs.YtnpiekniignfcaaGreatDoor
open Go.RowKit

theorem make_to (n d x y z : Int) (hq : Num.mk n d = (x, y, z)) (h0 : -9223372036854775808 ≤ n) (h1 : n ≤ 9223372036854775807) (h2 : -9223372036854775808 ≤ d) (h3 : d ≤ 9223372036854775807) (w : World) :
    Calls Tryz.prog 18 #[.int .i64 n, .int .i64 d] w fun e' w' => e' = .returned (.tuple #[.int .i64 x, .int .i64 y, .int .i64 z]) ∧ ∃ k, w' = w.drewN k := by
  have := make_any n d (by assumption) (by assumption) (by assumption) (by assumption) w
  rw [hq] at this
  exact this

theorem add_to (n d m e x y z : Int) (hq : Num.add n d m e = (x, y, z)) (h0 : -9223372036854775808 ≤ n) (h1 : n ≤ 9223372036854775807) (h2 : -9223372036854775808 ≤ d) (h3 : d ≤ 9223372036854775807) (h4 : -9223372036854775808 ≤ m) (h5 : m ≤ 9223372036854775807) (h6 : -9223372036854775808 ≤ e) (h7 : e ≤ 9223372036854775807) (w : World) :
    Calls Tryz.prog 19 #[.int .i64 n, .int .i64 d, .int .i64 m, .int .i64 e] w fun e' w' => e' = .returned (.tuple #[.int .i64 x, .int .i64 y, .int .i64 z]) ∧ ∃ k, w' = w.drewN k := by
  have := add_any n d m e (by assumption) (by assumption) (by assumption) (by assumption) (by assumption) (by assumption) (by assumption) (by assumption) w
  rw [hq] at this
  exact this

theorem sub_to (n d m e x y z : Int) (hq : Num.sub n d m e = (x, y, z)) (h0 : -9223372036854775808 ≤ n) (h1 : n ≤ 9223372036854775807) (h2 : -9223372036854775808 ≤ d) (h3 : d ≤ 9223372036854775807) (h4 : -9223372036854775808 ≤ m) (h5 : m ≤ 9223372036854775807) (h6 : -9223372036854775808 ≤ e) (h7 : e ≤ 9223372036854775807) (w : World) :
    Calls Tryz.prog 80 #[.int .i64 n, .int .i64 d, .int .i64 m, .int .i64 e] w fun e' w' => e' = .returned (.tuple #[.int .i64 x, .int .i64 y, .int .i64 z]) ∧ ∃ k, w' = w.drewN k := by
  have := sub_any n d m e (by assumption) (by assumption) (by assumption) (by assumption) (by assumption) (by assumption) (by assumption) (by assumption) w
  rw [hq] at this
  exact this

theorem mul_to (n d m e x y z : Int) (hq : Num.mul n d m e = (x, y, z)) (h0 : -9223372036854775808 ≤ n) (h1 : n ≤ 9223372036854775807) (h2 : -9223372036854775808 ≤ d) (h3 : d ≤ 9223372036854775807) (h4 : -9223372036854775808 ≤ m) (h5 : m ≤ 9223372036854775807) (h6 : -9223372036854775808 ≤ e) (h7 : e ≤ 9223372036854775807) (w : World) :
    Calls Tryz.prog 20 #[.int .i64 n, .int .i64 d, .int .i64 m, .int .i64 e] w fun e' w' => e' = .returned (.tuple #[.int .i64 x, .int .i64 y, .int .i64 z]) ∧ ∃ k, w' = w.drewN k := by
  have := mul_any n d m e (by assumption) (by assumption) (by assumption) (by assumption) (by assumption) (by assumption) (by assumption) (by assumption) w
  rw [hq] at this
  exact this

theorem div_to (n d m e x y z : Int) (hq : Num.div n d m e = (x, y, z)) (h0 : -9223372036854775808 ≤ n) (h1 : n ≤ 9223372036854775807) (h2 : -9223372036854775808 ≤ d) (h3 : d ≤ 9223372036854775807) (h4 : -9223372036854775808 ≤ m) (h5 : m ≤ 9223372036854775807) (h6 : -9223372036854775808 ≤ e) (h7 : e ≤ 9223372036854775807) (w : World) :
    Calls Tryz.prog 81 #[.int .i64 n, .int .i64 d, .int .i64 m, .int .i64 e] w fun e' w' => e' = .returned (.tuple #[.int .i64 x, .int .i64 y, .int .i64 z]) ∧ ∃ k, w' = w.drewN k := by
  have := div_any n d m e (by assumption) (by assumption) (by assumption) (by assumption) (by assumption) (by assumption) (by assumption) (by assumption) w
  rw [hq] at this
  exact this

theorem rmake_to (n d x y z : Int) (hq : Num.mk n d = (x, y, z)) (h0 : -9223372036854775808 ≤ n) (h1 : n ≤ 9223372036854775807) (h2 : -9223372036854775808 ≤ d) (h3 : d ≤ 9223372036854775807) (w : World) :
    Calls Tryz.prog 85 #[.int .i64 n, .int .i64 d] w fun e' w' => e' = .returned (.tuple #[.int .i64 x, .int .i64 y, .int .i64 z]) ∧ ∃ k, w' = w.drewN k := by
  have := rmake_any n d (by assumption) (by assumption) (by assumption) (by assumption) w
  rw [hq] at this
  exact this

theorem radd_to (n d m e x y z : Int) (hq : Num.add n d m e = (x, y, z)) (h0 : -9223372036854775808 ≤ n) (h1 : n ≤ 9223372036854775807) (h2 : -9223372036854775808 ≤ d) (h3 : d ≤ 9223372036854775807) (h4 : -9223372036854775808 ≤ m) (h5 : m ≤ 9223372036854775807) (h6 : -9223372036854775808 ≤ e) (h7 : e ≤ 9223372036854775807) (w : World) :
    Calls Tryz.prog 73 #[.int .i64 n, .int .i64 d, .int .i64 m, .int .i64 e] w fun e' w' => e' = .returned (.tuple #[.int .i64 x, .int .i64 y, .int .i64 z]) ∧ ∃ k, w' = w.drewN k := by
  have := radd_any n d m e (by assumption) (by assumption) (by assumption) (by assumption) (by assumption) (by assumption) (by assumption) (by assumption) w
  rw [hq] at this
  exact this

theorem rsub_to (n d m e x y z : Int) (hq : Num.rsub n d m e = (x, y, z)) (h0 : -9223372036854775808 ≤ n) (h1 : n ≤ 9223372036854775807) (h2 : -9223372036854775808 ≤ d) (h3 : d ≤ 9223372036854775807) (h4 : -9223372036854775808 ≤ m) (h5 : m ≤ 9223372036854775807) (h6 : -9223372036854775808 ≤ e) (h7 : e ≤ 9223372036854775807) (w : World) :
    Calls Tryz.prog 74 #[.int .i64 n, .int .i64 d, .int .i64 m, .int .i64 e] w fun e' w' => e' = .returned (.tuple #[.int .i64 x, .int .i64 y, .int .i64 z]) ∧ ∃ k, w' = w.drewN k := by
  have := rsub_any n d m e (by assumption) (by assumption) (by assumption) (by assumption) (by assumption) (by assumption) (by assumption) (by assumption) w
  rw [hq] at this
  exact this

theorem rmul_to (n d m e x y z : Int) (hq : Num.rmul n d m e = (x, y, z)) (h0 : -9223372036854775808 ≤ n) (h1 : n ≤ 9223372036854775807) (h2 : -9223372036854775808 ≤ d) (h3 : d ≤ 9223372036854775807) (h4 : -9223372036854775808 ≤ m) (h5 : m ≤ 9223372036854775807) (h6 : -9223372036854775808 ≤ e) (h7 : e ≤ 9223372036854775807) (w : World) :
    Calls Tryz.prog 75 #[.int .i64 n, .int .i64 d, .int .i64 m, .int .i64 e] w fun e' w' => e' = .returned (.tuple #[.int .i64 x, .int .i64 y, .int .i64 z]) ∧ ∃ k, w' = w.drewN k := by
  have := rmul_any n d m e (by assumption) (by assumption) (by assumption) (by assumption) (by assumption) (by assumption) (by assumption) (by assumption) w
  rw [hq] at this
  exact this

theorem rdiv_to (n d m e x y z : Int) (hq : Num.rdiv n d m e = (x, y, z)) (h0 : -9223372036854775808 ≤ n) (h1 : n ≤ 9223372036854775807) (h2 : -9223372036854775808 ≤ d) (h3 : d ≤ 9223372036854775807) (h4 : -9223372036854775808 ≤ m) (h5 : m ≤ 9223372036854775807) (h6 : -9223372036854775808 ≤ e) (h7 : e ≤ 9223372036854775807) (w : World) :
    Calls Tryz.prog 76 #[.int .i64 n, .int .i64 d, .int .i64 m, .int .i64 e] w fun e' w' => e' = .returned (.tuple #[.int .i64 x, .int .i64 y, .int .i64 z]) ∧ ∃ k, w' = w.drewN k := by
  have := rdiv_any n d m e (by assumption) (by assumption) (by assumption) (by assumption) (by assumption) (by assumption) (by assumption) (by assumption) w
  rw [hq] at this
  exact this

theorem less_to (n d m e : Int) (x : Bool) (hq : Num.less n d m e = x) (h0 : -9223372036854775808 ≤ n) (h1 : n ≤ 9223372036854775807) (h2 : -9223372036854775808 ≤ d) (h3 : d ≤ 9223372036854775807) (h4 : -9223372036854775808 ≤ m) (h5 : m ≤ 9223372036854775807) (h6 : -9223372036854775808 ≤ e) (h7 : e ≤ 9223372036854775807) (w : World) :
    Calls Tryz.prog 48 #[.int .i64 n, .int .i64 d, .int .i64 m, .int .i64 e] w fun e' w' => e' = .returned (.bool x) ∧ ∃ k, w' = w.drewN k := by
  have := less_any n d m e (by assumption) (by assumption) (by assumption) (by assumption) (by assumption) (by assumption) (by assumption) (by assumption) w
  rw [hq] at this
  exact this

theorem rless_to (n d m e : Int) (x : Bool) (hq : Num.less n d m e = x) (h0 : -9223372036854775808 ≤ n) (h1 : n ≤ 9223372036854775807) (h2 : -9223372036854775808 ≤ d) (h3 : d ≤ 9223372036854775807) (h4 : -9223372036854775808 ≤ m) (h5 : m ≤ 9223372036854775807) (h6 : -9223372036854775808 ≤ e) (h7 : e ≤ 9223372036854775807) (w : World) :
    Calls Tryz.prog 58 #[.int .i64 n, .int .i64 d, .int .i64 m, .int .i64 e] w fun e' w' => e' = .returned (.bool x) ∧ ∃ k, w' = w.drewN k := by
  have := rless_any n d m e (by assumption) (by assumption) (by assumption) (by assumption) (by assumption) (by assumption) (by assumption) (by assumption) w
  rw [hq] at this
  exact this

theorem right_to (n d : Int) (x : Bool) (hq : Num.right n d = x) (h0 : -9223372036854775808 ≤ n) (h1 : n ≤ 9223372036854775807) (h2 : -9223372036854775808 ≤ d) (h3 : d ≤ 9223372036854775807) (w : World) :
    Calls Tryz.prog 63 #[.int .i64 n, .int .i64 d] w fun e' w' => e' = .returned (.bool x) ∧ ∃ k, w' = w.drewN k := by
  have := right_any n d (by assumption) (by assumption) (by assumption) (by assumption) w
  rw [hq] at this
  exact this

theorem rright_to (n d : Int) (x : Bool) (hq : Num.right n d = x) (h0 : -9223372036854775808 ≤ n) (h1 : n ≤ 9223372036854775807) (h2 : -9223372036854775808 ≤ d) (h3 : d ≤ 9223372036854775807) (w : World) :
    Calls Tryz.prog 71 #[.int .i64 n, .int .i64 d] w fun e' w' => e' = .returned (.bool x) ∧ ∃ k, w' = w.drewN k := by
  have := rright_any n d (by assumption) (by assumption) (by assumption) (by assumption) w
  rw [hq] at this
  exact this

end Go.Proofs.YtnpiekniignfcaaGreatDoor
