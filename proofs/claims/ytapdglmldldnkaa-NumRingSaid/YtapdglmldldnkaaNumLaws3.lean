/-
  The walk of the law NumRing: it returns true.
-/
import Derived.Test.YtapdglmldldnkaaNumLaws2
namespace Go.Proofs.Ytapdglmldldnkaa
open Go.RowKit

set_option maxRecDepth 100000 in
set_option maxHeartbeats 4000000 in
theorem numRing_walk (x0 x1 x2 x3 x4 x5 : Int) (b0 : -9223372036854775808 ≤ x0 ∧ x0 ≤ 9223372036854775807) (b1 : -9223372036854775808 ≤ x1 ∧ x1 ≤ 9223372036854775807) (b2 : -9223372036854775808 ≤ x2 ∧ x2 ≤ 9223372036854775807) (b3 : -9223372036854775808 ≤ x3 ∧ x3 ≤ 9223372036854775807) (b4 : -9223372036854775808 ≤ x4 ∧ x4 ≤ 9223372036854775807) (b5 : -9223372036854775808 ≤ x5 ∧ x5 ≤ 9223372036854775807) (w : World) :
    Calls Try.prog 4 #[.agg #[.int .i64 x0, .int .i64 x1, .int .i64 x2, .int .i64 x3, .int .i64 x4, .int .i64 x5]] w fun e' w' => e' = .returned (.bool true) ∧ Below w.heap.size w w' := by
  obtain ⟨n, d, i, hq1⟩ : ∃ n d i, Num.mk x0 x1 = (n, d, i) := ⟨_, _, _, rfl⟩
  obtain ⟨m, e, j, hq2⟩ : ∃ n d i, Num.mk x2 x3 = (n, d, i) := ⟨_, _, _, rfl⟩
  obtain ⟨o, f, k, hq3⟩ : ∃ n d i, Num.mk x4 x5 = (n, d, i) := ⟨_, _, _, rfl⟩
  have he1 := Num.mk_end x0 x1
  have he2 := Num.mk_end x2 x3
  have he3 := Num.mk_end x4 x5
  rw [hq1] at he1
  rw [hq2] at he2
  rw [hq3] at he3
  simp only at he1 he2 he3
  have HQ1 := Lib.hid hq1
  have HQ2 := Lib.hid hq2
  have HQ3 := Lib.hid hq3
  by_cases hs : ¬ i + j + k = 0
  · have hs0 : (i + j + k == 0) = false := by simpa using hs
    have hs1 : (i + j + k != 0) = true := by simpa using hs
    clear hq1 hq2 hq3
    have hib : 0 ≤ i ∧ i ≤ 4 := by omega
    have hjb : 0 ≤ j ∧ j ≤ 4 := by omega
    have hkb : 0 ≤ k ∧ k ≤ 4 := by omega
    clear he1 he2 he3
    go_enter Try.func4, Try.ntmps4
    go_wp2_with (first | (go_at_call 8; refine (awake_any _).mono ?_; rintro e' w' ⟨rfl, nk, rfl⟩) | (go_at_call 9; ((with_reducible refine (make_to x0 x1 n d i HQ1.out (by omega) (by omega) (by omega) (by omega) _).mono ?_); rintro e' w' ⟨rfl, nk, rfl⟩)) | (go_at_call 9; ((with_reducible refine (make_to x2 x3 m e j HQ2.out (by omega) (by omega) (by omega) (by omega) _).mono ?_); rintro e' w' ⟨rfl, nk, rfl⟩)) | (go_at_call 9; ((with_reducible refine (make_to x4 x5 o f k HQ3.out (by omega) (by omega) (by omega) (by omega) _).mono ?_); rintro e' w' ⟨rfl, nk, rfl⟩)))
    go_ret
    exact ⟨rfl, ⟨rfl, rfl, rfl, by simp, fun k hk => by first | (exact Below.heap_alloc _ _ _ hk)⟩⟩
  obtain ⟨rfl, rfl, rfl⟩ : i = 0 ∧ j = 0 ∧ k = 0 := by omega
  obtain ⟨hr1, _⟩ := Num.mk_done hq1
  obtain ⟨hr2, _⟩ := Num.mk_done hq2
  obtain ⟨hr3, _⟩ := Num.mk_done hq3
  have hb1 := right_bd hr1
  have hb2 := right_bd hr2
  have hb3 := right_bd hr3
  clear he1 he2 he3 hq1 hq2 hq3
  obtain ⟨a, b, c, ha⟩ : ∃ x y s, Num.add n d m e = (x, y, s) := ⟨_, _, _, rfl⟩
  obtain ⟨p, q, r, hm⟩ : ∃ x y s, Num.mul n d m e = (x, y, s) := ⟨_, _, _, rfl⟩
  obtain ⟨g, h, v, hg⟩ : ∃ x y s, Num.add m e o f = (x, y, s) := ⟨_, _, _, rfl⟩
  obtain ⟨s, t, u, hw⟩ : ∃ x y s, Num.mul n d o f = (x, y, s) := ⟨_, _, _, rfl⟩
  have HA := Lib.hid ha
  have HA2 := Lib.hid ((Num.add_cm hr1 hr2).trans ha)
  have HM := Lib.hid hm
  have HM2 := Lib.hid ((Num.mul_cm hr1 hr2).trans hm)
  have HG := Lib.hid hg
  have HW := Lib.hid hw
  have R1 := Lib.hid hr1
  have R2 := Lib.hid hr2
  have R3 := Lib.hid hr3
  clear ha hm hg hw hr1 hr2 hr3
  by_cases hv : v = 0
  · subst hv
    have hgb := right_bd (Num.add_right R2.out R3.out HG.out)
    by_cases hc : c = 0
    · subst hc
      have hab := right_bd (Num.add_right R1.out R2.out HA.out)
      obtain ⟨a2, b2, c2, hs1⟩ : ∃ x y s, Num.add a b o f = (x, y, s) := ⟨_, _, _, rfl⟩
      have HS1 := Lib.hid hs1
      have HS2 := Lib.hid ((Num.add_as R1.out R2.out R3.out HA.out HG.out).trans hs1)
      clear hs1
      by_cases hr : r = 0
      · subst hr
        have hpb := right_bd (Num.mul_right R1.out R2.out HM.out)
        by_cases hu : u = 0
        · subst hu
          have hsb := right_bd (Num.mul_right R1.out R3.out HW.out)
          obtain ⟨a3, b3, c3, hs3⟩ : ∃ x y s, Num.mul n d g h = (x, y, s) := ⟨_, _, _, rfl⟩
          have HS3 := Lib.hid hs3
          have HS4 := Lib.hid ((Num.mul_dist R1.out R2.out R3.out HG.out HM.out HW.out).trans hs3)
          clear hs3
          go_enter Try.func4, Try.ntmps4
          go_wp2_with (first | (go_at_call 8; refine (awake_any _).mono ?_; rintro e' w' ⟨rfl, nk, rfl⟩) | (go_at_call 9; ((with_reducible refine (make_to x0 x1 n d 0 HQ1.out (by omega) (by omega) (by omega) (by omega) _).mono ?_); rintro e' w' ⟨rfl, nk, rfl⟩)) | (go_at_call 9; ((with_reducible refine (make_to x2 x3 m e 0 HQ2.out (by omega) (by omega) (by omega) (by omega) _).mono ?_); rintro e' w' ⟨rfl, nk, rfl⟩)) | (go_at_call 9; ((with_reducible refine (make_to x4 x5 o f 0 HQ3.out (by omega) (by omega) (by omega) (by omega) _).mono ?_); rintro e' w' ⟨rfl, nk, rfl⟩)) | (go_at_call 13; ((with_reducible refine (add_to n d m e a b 0 HA.out (by omega) (by omega) (by omega) (by omega) (by omega) (by omega) (by omega) (by omega) _).mono ?_); rintro e' w' ⟨rfl, nk, rfl⟩)) | (go_at_call 13; ((with_reducible refine (add_to m e n d a b 0 HA2.out (by omega) (by omega) (by omega) (by omega) (by omega) (by omega) (by omega) (by omega) _).mono ?_); rintro e' w' ⟨rfl, nk, rfl⟩)) | (go_at_call 14; ((with_reducible refine (mul_to n d m e p q 0 HM.out (by omega) (by omega) (by omega) (by omega) (by omega) (by omega) (by omega) (by omega) _).mono ?_); rintro e' w' ⟨rfl, nk, rfl⟩)) | (go_at_call 14; ((with_reducible refine (mul_to m e n d p q 0 HM2.out (by omega) (by omega) (by omega) (by omega) (by omega) (by omega) (by omega) (by omega) _).mono ?_); rintro e' w' ⟨rfl, nk, rfl⟩)) | (go_at_call 13; ((with_reducible refine (add_to m e o f g h 0 HG.out (by omega) (by omega) (by omega) (by omega) (by omega) (by omega) (by omega) (by omega) _).mono ?_); rintro e' w' ⟨rfl, nk, rfl⟩)) | (go_at_call 14; ((with_reducible refine (mul_to n d o f s t 0 HW.out (by omega) (by omega) (by omega) (by omega) (by omega) (by omega) (by omega) (by omega) _).mono ?_); rintro e' w' ⟨rfl, nk, rfl⟩)) | (go_at_call 13; ((with_reducible refine (add_to a b o f a2 b2 c2 HS1.out (by omega) (by omega) (by omega) (by omega) (by omega) (by omega) (by omega) (by omega) _).mono ?_); rintro e' w' ⟨rfl, nk, rfl⟩)) | (go_at_call 13; ((with_reducible refine (add_to n d g h a2 b2 c2 HS2.out (by omega) (by omega) (by omega) (by omega) (by omega) (by omega) (by omega) (by omega) _).mono ?_); rintro e' w' ⟨rfl, nk, rfl⟩)) | (go_at_call 14; ((with_reducible refine (mul_to n d g h a3 b3 c3 HS3.out (by omega) (by omega) (by omega) (by omega) (by omega) (by omega) (by omega) (by omega) _).mono ?_); rintro e' w' ⟨rfl, nk, rfl⟩)) | (go_at_call 13; ((with_reducible refine (add_to p q s t a3 b3 c3 HS4.out (by omega) (by omega) (by omega) (by omega) (by omega) (by omega) (by omega) (by omega) _).mono ?_); rintro e' w' ⟨rfl, nk, rfl⟩)))
          go_ret
          exact ⟨rfl, ⟨rfl, rfl, rfl, by simp, fun k hk => by first | (exact Below.heap_alloc _ _ _ hk)⟩⟩
        · have u2 : (u == 0) = false := by simpa using hu
          clear hu
          go_enter Try.func4, Try.ntmps4
          go_wp2_with (first | (go_at_call 8; refine (awake_any _).mono ?_; rintro e' w' ⟨rfl, nk, rfl⟩) | (go_at_call 9; ((with_reducible refine (make_to x0 x1 n d 0 HQ1.out (by omega) (by omega) (by omega) (by omega) _).mono ?_); rintro e' w' ⟨rfl, nk, rfl⟩)) | (go_at_call 9; ((with_reducible refine (make_to x2 x3 m e 0 HQ2.out (by omega) (by omega) (by omega) (by omega) _).mono ?_); rintro e' w' ⟨rfl, nk, rfl⟩)) | (go_at_call 9; ((with_reducible refine (make_to x4 x5 o f 0 HQ3.out (by omega) (by omega) (by omega) (by omega) _).mono ?_); rintro e' w' ⟨rfl, nk, rfl⟩)) | (go_at_call 13; ((with_reducible refine (add_to n d m e a b 0 HA.out (by omega) (by omega) (by omega) (by omega) (by omega) (by omega) (by omega) (by omega) _).mono ?_); rintro e' w' ⟨rfl, nk, rfl⟩)) | (go_at_call 13; ((with_reducible refine (add_to m e n d a b 0 HA2.out (by omega) (by omega) (by omega) (by omega) (by omega) (by omega) (by omega) (by omega) _).mono ?_); rintro e' w' ⟨rfl, nk, rfl⟩)) | (go_at_call 14; ((with_reducible refine (mul_to n d m e p q 0 HM.out (by omega) (by omega) (by omega) (by omega) (by omega) (by omega) (by omega) (by omega) _).mono ?_); rintro e' w' ⟨rfl, nk, rfl⟩)) | (go_at_call 14; ((with_reducible refine (mul_to m e n d p q 0 HM2.out (by omega) (by omega) (by omega) (by omega) (by omega) (by omega) (by omega) (by omega) _).mono ?_); rintro e' w' ⟨rfl, nk, rfl⟩)) | (go_at_call 13; ((with_reducible refine (add_to m e o f g h 0 HG.out (by omega) (by omega) (by omega) (by omega) (by omega) (by omega) (by omega) (by omega) _).mono ?_); rintro e' w' ⟨rfl, nk, rfl⟩)) | (go_at_call 14; ((with_reducible refine (mul_to n d o f s t u HW.out (by omega) (by omega) (by omega) (by omega) (by omega) (by omega) (by omega) (by omega) _).mono ?_); rintro e' w' ⟨rfl, nk, rfl⟩)) | (go_at_call 13; ((with_reducible refine (add_to a b o f a2 b2 c2 HS1.out (by omega) (by omega) (by omega) (by omega) (by omega) (by omega) (by omega) (by omega) _).mono ?_); rintro e' w' ⟨rfl, nk, rfl⟩)) | (go_at_call 13; ((with_reducible refine (add_to n d g h a2 b2 c2 HS2.out (by omega) (by omega) (by omega) (by omega) (by omega) (by omega) (by omega) (by omega) _).mono ?_); rintro e' w' ⟨rfl, nk, rfl⟩)))
          go_ret
          exact ⟨rfl, ⟨rfl, rfl, rfl, by simp, fun k hk => by first | (exact Below.heap_alloc _ _ _ hk)⟩⟩
      · have r2 : (r == 0) = false := by simpa using hr
        clear hr
        go_enter Try.func4, Try.ntmps4
        go_wp2_with (first | (go_at_call 8; refine (awake_any _).mono ?_; rintro e' w' ⟨rfl, nk, rfl⟩) | (go_at_call 9; ((with_reducible refine (make_to x0 x1 n d 0 HQ1.out (by omega) (by omega) (by omega) (by omega) _).mono ?_); rintro e' w' ⟨rfl, nk, rfl⟩)) | (go_at_call 9; ((with_reducible refine (make_to x2 x3 m e 0 HQ2.out (by omega) (by omega) (by omega) (by omega) _).mono ?_); rintro e' w' ⟨rfl, nk, rfl⟩)) | (go_at_call 9; ((with_reducible refine (make_to x4 x5 o f 0 HQ3.out (by omega) (by omega) (by omega) (by omega) _).mono ?_); rintro e' w' ⟨rfl, nk, rfl⟩)) | (go_at_call 13; ((with_reducible refine (add_to n d m e a b 0 HA.out (by omega) (by omega) (by omega) (by omega) (by omega) (by omega) (by omega) (by omega) _).mono ?_); rintro e' w' ⟨rfl, nk, rfl⟩)) | (go_at_call 13; ((with_reducible refine (add_to m e n d a b 0 HA2.out (by omega) (by omega) (by omega) (by omega) (by omega) (by omega) (by omega) (by omega) _).mono ?_); rintro e' w' ⟨rfl, nk, rfl⟩)) | (go_at_call 14; ((with_reducible refine (mul_to n d m e p q r HM.out (by omega) (by omega) (by omega) (by omega) (by omega) (by omega) (by omega) (by omega) _).mono ?_); rintro e' w' ⟨rfl, nk, rfl⟩)) | (go_at_call 14; ((with_reducible refine (mul_to m e n d p q r HM2.out (by omega) (by omega) (by omega) (by omega) (by omega) (by omega) (by omega) (by omega) _).mono ?_); rintro e' w' ⟨rfl, nk, rfl⟩)) | (go_at_call 13; ((with_reducible refine (add_to m e o f g h 0 HG.out (by omega) (by omega) (by omega) (by omega) (by omega) (by omega) (by omega) (by omega) _).mono ?_); rintro e' w' ⟨rfl, nk, rfl⟩)) | (go_at_call 14; ((with_reducible refine (mul_to n d o f s t u HW.out (by omega) (by omega) (by omega) (by omega) (by omega) (by omega) (by omega) (by omega) _).mono ?_); rintro e' w' ⟨rfl, nk, rfl⟩)) | (go_at_call 13; ((with_reducible refine (add_to a b o f a2 b2 c2 HS1.out (by omega) (by omega) (by omega) (by omega) (by omega) (by omega) (by omega) (by omega) _).mono ?_); rintro e' w' ⟨rfl, nk, rfl⟩)) | (go_at_call 13; ((with_reducible refine (add_to n d g h a2 b2 c2 HS2.out (by omega) (by omega) (by omega) (by omega) (by omega) (by omega) (by omega) (by omega) _).mono ?_); rintro e' w' ⟨rfl, nk, rfl⟩)))
        go_ret
        exact ⟨rfl, ⟨rfl, rfl, rfl, by simp, fun k hk => by first | (exact Below.heap_alloc _ _ _ hk)⟩⟩
    · have c2 : (c == 0) = false := by simpa using hc
      clear hc
      by_cases hr : r = 0
      · subst hr
        have hpb := right_bd (Num.mul_right R1.out R2.out HM.out)
        by_cases hu : u = 0
        · subst hu
          have hsb := right_bd (Num.mul_right R1.out R3.out HW.out)
          obtain ⟨a3, b3, c3, hs3⟩ : ∃ x y s, Num.mul n d g h = (x, y, s) := ⟨_, _, _, rfl⟩
          have HS3 := Lib.hid hs3
          have HS4 := Lib.hid ((Num.mul_dist R1.out R2.out R3.out HG.out HM.out HW.out).trans hs3)
          clear hs3
          go_enter Try.func4, Try.ntmps4
          go_wp2_with (first | (go_at_call 8; refine (awake_any _).mono ?_; rintro e' w' ⟨rfl, nk, rfl⟩) | (go_at_call 9; ((with_reducible refine (make_to x0 x1 n d 0 HQ1.out (by omega) (by omega) (by omega) (by omega) _).mono ?_); rintro e' w' ⟨rfl, nk, rfl⟩)) | (go_at_call 9; ((with_reducible refine (make_to x2 x3 m e 0 HQ2.out (by omega) (by omega) (by omega) (by omega) _).mono ?_); rintro e' w' ⟨rfl, nk, rfl⟩)) | (go_at_call 9; ((with_reducible refine (make_to x4 x5 o f 0 HQ3.out (by omega) (by omega) (by omega) (by omega) _).mono ?_); rintro e' w' ⟨rfl, nk, rfl⟩)) | (go_at_call 13; ((with_reducible refine (add_to n d m e a b c HA.out (by omega) (by omega) (by omega) (by omega) (by omega) (by omega) (by omega) (by omega) _).mono ?_); rintro e' w' ⟨rfl, nk, rfl⟩)) | (go_at_call 13; ((with_reducible refine (add_to m e n d a b c HA2.out (by omega) (by omega) (by omega) (by omega) (by omega) (by omega) (by omega) (by omega) _).mono ?_); rintro e' w' ⟨rfl, nk, rfl⟩)) | (go_at_call 14; ((with_reducible refine (mul_to n d m e p q 0 HM.out (by omega) (by omega) (by omega) (by omega) (by omega) (by omega) (by omega) (by omega) _).mono ?_); rintro e' w' ⟨rfl, nk, rfl⟩)) | (go_at_call 14; ((with_reducible refine (mul_to m e n d p q 0 HM2.out (by omega) (by omega) (by omega) (by omega) (by omega) (by omega) (by omega) (by omega) _).mono ?_); rintro e' w' ⟨rfl, nk, rfl⟩)) | (go_at_call 13; ((with_reducible refine (add_to m e o f g h 0 HG.out (by omega) (by omega) (by omega) (by omega) (by omega) (by omega) (by omega) (by omega) _).mono ?_); rintro e' w' ⟨rfl, nk, rfl⟩)) | (go_at_call 14; ((with_reducible refine (mul_to n d o f s t 0 HW.out (by omega) (by omega) (by omega) (by omega) (by omega) (by omega) (by omega) (by omega) _).mono ?_); rintro e' w' ⟨rfl, nk, rfl⟩)) | (go_at_call 14; ((with_reducible refine (mul_to n d g h a3 b3 c3 HS3.out (by omega) (by omega) (by omega) (by omega) (by omega) (by omega) (by omega) (by omega) _).mono ?_); rintro e' w' ⟨rfl, nk, rfl⟩)) | (go_at_call 13; ((with_reducible refine (add_to p q s t a3 b3 c3 HS4.out (by omega) (by omega) (by omega) (by omega) (by omega) (by omega) (by omega) (by omega) _).mono ?_); rintro e' w' ⟨rfl, nk, rfl⟩)))
          go_ret
          exact ⟨rfl, ⟨rfl, rfl, rfl, by simp, fun k hk => by first | (exact Below.heap_alloc _ _ _ hk)⟩⟩
        · have u2 : (u == 0) = false := by simpa using hu
          clear hu
          go_enter Try.func4, Try.ntmps4
          go_wp2_with (first | (go_at_call 8; refine (awake_any _).mono ?_; rintro e' w' ⟨rfl, nk, rfl⟩) | (go_at_call 9; ((with_reducible refine (make_to x0 x1 n d 0 HQ1.out (by omega) (by omega) (by omega) (by omega) _).mono ?_); rintro e' w' ⟨rfl, nk, rfl⟩)) | (go_at_call 9; ((with_reducible refine (make_to x2 x3 m e 0 HQ2.out (by omega) (by omega) (by omega) (by omega) _).mono ?_); rintro e' w' ⟨rfl, nk, rfl⟩)) | (go_at_call 9; ((with_reducible refine (make_to x4 x5 o f 0 HQ3.out (by omega) (by omega) (by omega) (by omega) _).mono ?_); rintro e' w' ⟨rfl, nk, rfl⟩)) | (go_at_call 13; ((with_reducible refine (add_to n d m e a b c HA.out (by omega) (by omega) (by omega) (by omega) (by omega) (by omega) (by omega) (by omega) _).mono ?_); rintro e' w' ⟨rfl, nk, rfl⟩)) | (go_at_call 13; ((with_reducible refine (add_to m e n d a b c HA2.out (by omega) (by omega) (by omega) (by omega) (by omega) (by omega) (by omega) (by omega) _).mono ?_); rintro e' w' ⟨rfl, nk, rfl⟩)) | (go_at_call 14; ((with_reducible refine (mul_to n d m e p q 0 HM.out (by omega) (by omega) (by omega) (by omega) (by omega) (by omega) (by omega) (by omega) _).mono ?_); rintro e' w' ⟨rfl, nk, rfl⟩)) | (go_at_call 14; ((with_reducible refine (mul_to m e n d p q 0 HM2.out (by omega) (by omega) (by omega) (by omega) (by omega) (by omega) (by omega) (by omega) _).mono ?_); rintro e' w' ⟨rfl, nk, rfl⟩)) | (go_at_call 13; ((with_reducible refine (add_to m e o f g h 0 HG.out (by omega) (by omega) (by omega) (by omega) (by omega) (by omega) (by omega) (by omega) _).mono ?_); rintro e' w' ⟨rfl, nk, rfl⟩)) | (go_at_call 14; ((with_reducible refine (mul_to n d o f s t u HW.out (by omega) (by omega) (by omega) (by omega) (by omega) (by omega) (by omega) (by omega) _).mono ?_); rintro e' w' ⟨rfl, nk, rfl⟩)))
          go_ret
          exact ⟨rfl, ⟨rfl, rfl, rfl, by simp, fun k hk => by first | (exact Below.heap_alloc _ _ _ hk)⟩⟩
      · have r2 : (r == 0) = false := by simpa using hr
        clear hr
        go_enter Try.func4, Try.ntmps4
        go_wp2_with (first | (go_at_call 8; refine (awake_any _).mono ?_; rintro e' w' ⟨rfl, nk, rfl⟩) | (go_at_call 9; ((with_reducible refine (make_to x0 x1 n d 0 HQ1.out (by omega) (by omega) (by omega) (by omega) _).mono ?_); rintro e' w' ⟨rfl, nk, rfl⟩)) | (go_at_call 9; ((with_reducible refine (make_to x2 x3 m e 0 HQ2.out (by omega) (by omega) (by omega) (by omega) _).mono ?_); rintro e' w' ⟨rfl, nk, rfl⟩)) | (go_at_call 9; ((with_reducible refine (make_to x4 x5 o f 0 HQ3.out (by omega) (by omega) (by omega) (by omega) _).mono ?_); rintro e' w' ⟨rfl, nk, rfl⟩)) | (go_at_call 13; ((with_reducible refine (add_to n d m e a b c HA.out (by omega) (by omega) (by omega) (by omega) (by omega) (by omega) (by omega) (by omega) _).mono ?_); rintro e' w' ⟨rfl, nk, rfl⟩)) | (go_at_call 13; ((with_reducible refine (add_to m e n d a b c HA2.out (by omega) (by omega) (by omega) (by omega) (by omega) (by omega) (by omega) (by omega) _).mono ?_); rintro e' w' ⟨rfl, nk, rfl⟩)) | (go_at_call 14; ((with_reducible refine (mul_to n d m e p q r HM.out (by omega) (by omega) (by omega) (by omega) (by omega) (by omega) (by omega) (by omega) _).mono ?_); rintro e' w' ⟨rfl, nk, rfl⟩)) | (go_at_call 14; ((with_reducible refine (mul_to m e n d p q r HM2.out (by omega) (by omega) (by omega) (by omega) (by omega) (by omega) (by omega) (by omega) _).mono ?_); rintro e' w' ⟨rfl, nk, rfl⟩)) | (go_at_call 13; ((with_reducible refine (add_to m e o f g h 0 HG.out (by omega) (by omega) (by omega) (by omega) (by omega) (by omega) (by omega) (by omega) _).mono ?_); rintro e' w' ⟨rfl, nk, rfl⟩)) | (go_at_call 14; ((with_reducible refine (mul_to n d o f s t u HW.out (by omega) (by omega) (by omega) (by omega) (by omega) (by omega) (by omega) (by omega) _).mono ?_); rintro e' w' ⟨rfl, nk, rfl⟩)))
        go_ret
        exact ⟨rfl, ⟨rfl, rfl, rfl, by simp, fun k hk => by first | (exact Below.heap_alloc _ _ _ hk)⟩⟩
  · have v2 : (v == 0) = false := by simpa using hv
    clear hv
    by_cases hc : c = 0
    · subst hc
      go_enter Try.func4, Try.ntmps4
      go_wp2_with (first | (go_at_call 8; refine (awake_any _).mono ?_; rintro e' w' ⟨rfl, nk, rfl⟩) | (go_at_call 9; ((with_reducible refine (make_to x0 x1 n d 0 HQ1.out (by omega) (by omega) (by omega) (by omega) _).mono ?_); rintro e' w' ⟨rfl, nk, rfl⟩)) | (go_at_call 9; ((with_reducible refine (make_to x2 x3 m e 0 HQ2.out (by omega) (by omega) (by omega) (by omega) _).mono ?_); rintro e' w' ⟨rfl, nk, rfl⟩)) | (go_at_call 9; ((with_reducible refine (make_to x4 x5 o f 0 HQ3.out (by omega) (by omega) (by omega) (by omega) _).mono ?_); rintro e' w' ⟨rfl, nk, rfl⟩)) | (go_at_call 13; ((with_reducible refine (add_to n d m e a b 0 HA.out (by omega) (by omega) (by omega) (by omega) (by omega) (by omega) (by omega) (by omega) _).mono ?_); rintro e' w' ⟨rfl, nk, rfl⟩)) | (go_at_call 13; ((with_reducible refine (add_to m e n d a b 0 HA2.out (by omega) (by omega) (by omega) (by omega) (by omega) (by omega) (by omega) (by omega) _).mono ?_); rintro e' w' ⟨rfl, nk, rfl⟩)) | (go_at_call 14; ((with_reducible refine (mul_to n d m e p q r HM.out (by omega) (by omega) (by omega) (by omega) (by omega) (by omega) (by omega) (by omega) _).mono ?_); rintro e' w' ⟨rfl, nk, rfl⟩)) | (go_at_call 14; ((with_reducible refine (mul_to m e n d p q r HM2.out (by omega) (by omega) (by omega) (by omega) (by omega) (by omega) (by omega) (by omega) _).mono ?_); rintro e' w' ⟨rfl, nk, rfl⟩)) | (go_at_call 13; ((with_reducible refine (add_to m e o f g h v HG.out (by omega) (by omega) (by omega) (by omega) (by omega) (by omega) (by omega) (by omega) _).mono ?_); rintro e' w' ⟨rfl, nk, rfl⟩)) | (go_at_call 14; ((with_reducible refine (mul_to n d o f s t u HW.out (by omega) (by omega) (by omega) (by omega) (by omega) (by omega) (by omega) (by omega) _).mono ?_); rintro e' w' ⟨rfl, nk, rfl⟩)))
      go_ret
      exact ⟨rfl, ⟨rfl, rfl, rfl, by simp, fun k hk => by first | (exact Below.heap_alloc _ _ _ hk)⟩⟩
    · have c2 : (c == 0) = false := by simpa using hc
      clear hc
      go_enter Try.func4, Try.ntmps4
      go_wp2_with (first | (go_at_call 8; refine (awake_any _).mono ?_; rintro e' w' ⟨rfl, nk, rfl⟩) | (go_at_call 9; ((with_reducible refine (make_to x0 x1 n d 0 HQ1.out (by omega) (by omega) (by omega) (by omega) _).mono ?_); rintro e' w' ⟨rfl, nk, rfl⟩)) | (go_at_call 9; ((with_reducible refine (make_to x2 x3 m e 0 HQ2.out (by omega) (by omega) (by omega) (by omega) _).mono ?_); rintro e' w' ⟨rfl, nk, rfl⟩)) | (go_at_call 9; ((with_reducible refine (make_to x4 x5 o f 0 HQ3.out (by omega) (by omega) (by omega) (by omega) _).mono ?_); rintro e' w' ⟨rfl, nk, rfl⟩)) | (go_at_call 13; ((with_reducible refine (add_to n d m e a b c HA.out (by omega) (by omega) (by omega) (by omega) (by omega) (by omega) (by omega) (by omega) _).mono ?_); rintro e' w' ⟨rfl, nk, rfl⟩)) | (go_at_call 13; ((with_reducible refine (add_to m e n d a b c HA2.out (by omega) (by omega) (by omega) (by omega) (by omega) (by omega) (by omega) (by omega) _).mono ?_); rintro e' w' ⟨rfl, nk, rfl⟩)) | (go_at_call 14; ((with_reducible refine (mul_to n d m e p q r HM.out (by omega) (by omega) (by omega) (by omega) (by omega) (by omega) (by omega) (by omega) _).mono ?_); rintro e' w' ⟨rfl, nk, rfl⟩)) | (go_at_call 14; ((with_reducible refine (mul_to m e n d p q r HM2.out (by omega) (by omega) (by omega) (by omega) (by omega) (by omega) (by omega) (by omega) _).mono ?_); rintro e' w' ⟨rfl, nk, rfl⟩)) | (go_at_call 13; ((with_reducible refine (add_to m e o f g h v HG.out (by omega) (by omega) (by omega) (by omega) (by omega) (by omega) (by omega) (by omega) _).mono ?_); rintro e' w' ⟨rfl, nk, rfl⟩)) | (go_at_call 14; ((with_reducible refine (mul_to n d o f s t u HW.out (by omega) (by omega) (by omega) (by omega) (by omega) (by omega) (by omega) (by omega) _).mono ?_); rintro e' w' ⟨rfl, nk, rfl⟩)))
      go_ret
      exact ⟨rfl, ⟨rfl, rfl, rfl, by simp, fun k hk => by first | (exact Below.heap_alloc _ _ _ hk)⟩⟩

end Go.Proofs.Ytapdglmldldnkaa
