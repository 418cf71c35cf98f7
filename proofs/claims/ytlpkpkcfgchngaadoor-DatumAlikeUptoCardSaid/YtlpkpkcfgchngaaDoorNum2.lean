/-
  The contracts of num.Make .. and of the reference's: each computes what Num (NumLaw) says, and writes nothing.
-/
import Derived.Test.YtlpkpkcfgchngaaDoorNum
namespace Go.Proofs.YtlpkpkcfgchngaaDoor
open Go.RowKit

theorem common_to (n d : Int) (G : Nat) (hG : Int.gcd n d = G) (h0 : n.natAbs ≤ 9223372036854775808) (h2 : d.natAbs ≤ 9223372036854775808) (w : World) :
    Calls Tryd.prog 34 #[.int .u64 n.natAbs, .int .u64 d.natAbs] w fun e w' => e = .returned (.int .u64 G) ∧ ∃ n, w' = w.drewN n := by
  refine (common_int _ _ (by omega) (by omega) (by omega) (by omega) w).mono ?_
  rintro e w' ⟨rfl, k⟩
  exact ⟨by rw [← hG]; simp [Int.gcd], k⟩

theorem make_any (n d : Int) (h0 : -9223372036854775808 ≤ n) (h1 : n ≤ 9223372036854775807) (h2 : -9223372036854775808 ≤ d) (h3 : d ≤ 9223372036854775807) (w : World) :
    Calls Tryd.prog 52 #[.int .i64 n, .int .i64 d] w fun e w' => e = .returned (.tuple #[.int .i64 (Num.mk n d).1, .int .i64 (Num.mk n d).2.1, .int .i64 (Num.mk n d).2.2]) ∧ ∃ k, w' = w.drewN k := by
  by_cases hd : d = 0
  · subst hd
    go_enter Tryd.func52, Tryd.ntmps52
    go_wp2
    go_ret3
    exact ⟨ret_3p rfl, 0, rfl⟩
  · have hg := Num.gcd_ne (n := n) hd
    have hd0 : (d == 0) = false := by simpa using hd
    obtain ⟨G, hG⟩ : ∃ G, Int.gcd n d = G := ⟨_, rfl⟩
    obtain ⟨A, hA⟩ : ∃ A, n.natAbs / G = A := ⟨_, rfl⟩
    obtain ⟨B, hB⟩ : ∃ B, d.natAbs / G = B := ⟨_, rfl⟩
    rw [hG] at hg
    have HK : Hid (Num.mk n d = if 2147483647 < A ∨ 2147483647 < B then (0, 0, 3) else if n < 0 ↔ d < 0 then ((A : Int), (B : Int), 0) else (-(A : Int), (B : Int), 0)) := Lib.hid (by simp only [Num.mk, hd, if_false, hG, hA, hB])
    have b1 : A ≤ n.natAbs := by rw [← hA]; exact Nat.div_le_self _ _
    have b2 : B ≤ d.natAbs := by rw [← hB]; exact Nat.div_le_self _ _
    have q1 : ((n.natAbs : Int) / (G : Int)) = A := by rw [← hA]; rfl
    have q2 : ((d.natAbs : Int) / (G : Int)) = B := by rw [← hB]; rfl
    have HG := Lib.hid hG
    clear hG hA hB
    have hg0 : ((G : Int) == 0) = false := by simpa using hg
    cases hn : decide (n < 0) <;> cases hm : decide (d < 0)
    all_goals
      have hn2 := hn
      have hm2 := hm
      simp only [decide_eq_true_eq, decide_eq_false_iff_not, Int.not_lt] at hn2 hm2
      go_enter Tryd.func52, Tryd.ntmps52
      go_wp2_with (first | (go_at_call 35; refine (amount_any _ (by omega) (by omega) _).mono ?_; rintro e w' ⟨rfl, rfl⟩) | (go_at_call 34; refine (common_to _ _ G HG.out (by omega) (by omega) _).mono ?_; rintro e w' ⟨rfl, k, rfl⟩))
      go_quiet (fail)
      go_wp2
      all_goals
        go_ret3
        refine ⟨ret_3p (HK.out.trans ?_), by first | exact ⟨0, rfl⟩ | exact ⟨_, rfl⟩⟩
        first
          | (rw [if_pos (by omega)])
          | (rw [if_neg (by omega), if_pos (by omega)])
          | (rw [if_neg (by omega), if_neg (by omega)])

end Go.Proofs.YtlpkpkcfgchngaaDoor
