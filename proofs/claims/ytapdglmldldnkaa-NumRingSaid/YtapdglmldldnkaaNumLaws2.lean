/-
  The walks of the laws NumOrder, NumRing: each returns true.
-/
import Derived.Test.YtapdglmldldnkaaNumLaws
import Derived.Below
namespace Go.Proofs.Ytapdglmldldnkaa
open Go.RowKit

namespace Num
theorem less_irr {n d : Int} (h : right n d = true) : less n d n d = false := by
  rw [less_eq h h, decide_eq_false_iff_not]; exact Rat.lt_irrefl
theorem less_asym {n d m e : Int} (h : right n d = true) (h' : right m e = true) (hl : less n d m e = true) : less m e n d = false := by
  rw [less_eq h h', decide_eq_true_eq] at hl
  rw [less_eq h' h, decide_eq_false_iff_not, Rat.not_lt]; exact Rat.le_of_lt hl
theorem lt_trans' {a b c : Rat} (h : a < b) (h' : b < c) : a < c := by
  refine Rat.lt_of_le_of_ne (Rat.le_trans (Rat.le_of_lt h) (Rat.le_of_lt h')) ?_
  rintro rfl
  exact Rat.not_lt.2 (Rat.le_of_lt h') h
theorem less_trans {n d m e o f : Int} (h : right n d = true) (h' : right m e = true) (h'' : right o f = true) (hl : less n d m e = true) (hl' : less m e o f = true) : less n d o f = true := by
  rw [less_eq h h', decide_eq_true_eq] at hl
  rw [less_eq h' h'', decide_eq_true_eq] at hl'
  rw [less_eq h h'', decide_eq_true_eq]
  exact lt_trans' hl hl'
theorem less_add {n d m e o f x y z v : Int} (h : right n d = true) (h' : right m e = true) (h'' : right o f = true) (h1 : add n d o f = (x, y, 0)) (h2 : add m e o f = (z, v, 0)) : less x y z v = less n d m e := by
  rw [add_eq h h''] at h1
  rw [add_eq h' h''] at h2
  obtain ⟨r1, q1⟩ := ofQ_done h1
  obtain ⟨r2, q2⟩ := ofQ_done h2
  rw [less_eq r1 r2, less_eq h h', q1, q2, decide_eq_decide]
  constructor
  · intro hl
    rw [Rat.lt_iff_le_and_ne] at hl ⊢
    obtain ⟨a, b⟩ := hl
    exact ⟨Rat.add_le_add_right.1 a, fun e => b (by rw [e])⟩
  · intro hl
    exact Rat.add_lt_add_right.2 hl
theorem add_cm {n d m e : Int} (h : right n d = true) (h' : right m e = true) : add m e n d = add n d m e := by
  rw [add_eq h h', add_eq h' h, Rat.add_comm]
theorem mul_cm {n d m e : Int} (h : right n d = true) (h' : right m e = true) : mul m e n d = mul n d m e := by
  rw [mul_eq h h', mul_eq h' h, Rat.mul_comm]
theorem add_right {n d m e x y : Int} (h : right n d = true) (h' : right m e = true) (h1 : add n d m e = (x, y, 0)) : right x y = true := by
  rw [add_eq h h'] at h1; exact (ofQ_done h1).1
theorem mul_right {n d m e x y : Int} (h : right n d = true) (h' : right m e = true) (h1 : mul n d m e = (x, y, 0)) : right x y = true := by
  rw [mul_eq h h'] at h1; exact (ofQ_done h1).1
theorem add_as {n d m e o f a b g h : Int} (h1 : right n d = true) (h2 : right m e = true) (h3 : right o f = true) (q1 : add n d m e = (a, b, 0)) (q2 : add m e o f = (g, h, 0)) : add n d g h = add a b o f := by
  rw [add_eq h1 h2] at q1
  rw [add_eq h2 h3] at q2
  obtain ⟨r1, e1⟩ := ofQ_done q1
  obtain ⟨r2, e2⟩ := ofQ_done q2
  rw [add_eq h1 r2, add_eq r1 h3, e1, e2, Rat.add_assoc]
theorem mul_dist {n d m e o f g h p q s t : Int} (h1 : right n d = true) (h2 : right m e = true) (h3 : right o f = true) (q2 : add m e o f = (g, h, 0)) (q3 : mul n d m e = (p, q, 0)) (q4 : mul n d o f = (s, t, 0)) : add p q s t = mul n d g h := by
  rw [add_eq h2 h3] at q2
  rw [mul_eq h1 h2] at q3
  rw [mul_eq h1 h3] at q4
  obtain ⟨r2, e2⟩ := ofQ_done q2
  obtain ⟨r3, e3⟩ := ofQ_done q3
  obtain ⟨r4, e4⟩ := ofQ_done q4
  rw [mul_eq h1 r2, add_eq r3 r4, e2, e3, e4, Rat.mul_add]
end Num

set_option maxHeartbeats 4000000 in
theorem numOrder_walk (x0 x1 x2 x3 x4 x5 : Int) (b0 : -9223372036854775808 ≤ x0 ∧ x0 ≤ 9223372036854775807) (b1 : -9223372036854775808 ≤ x1 ∧ x1 ≤ 9223372036854775807) (b2 : -9223372036854775808 ≤ x2 ∧ x2 ≤ 9223372036854775807) (b3 : -9223372036854775808 ≤ x3 ∧ x3 ≤ 9223372036854775807) (b4 : -9223372036854775808 ≤ x4 ∧ x4 ≤ 9223372036854775807) (b5 : -9223372036854775808 ≤ x5 ∧ x5 ≤ 9223372036854775807) (w : World) :
    Calls Try.prog 5 #[.agg #[.int .i64 x0, .int .i64 x1, .int .i64 x2, .int .i64 x3, .int .i64 x4, .int .i64 x5]] w fun e' w' => e' = .returned (.bool true) ∧ Below w.heap.size w w' := by
  obtain ⟨n, d, i, hq1⟩ : ∃ n d i, Num.mk x0 x1 = (n, d, i) := ⟨_, _, _, rfl⟩
  obtain ⟨m, e, j, hq2⟩ : ∃ n d i, Num.mk x2 x3 = (n, d, i) := ⟨_, _, _, rfl⟩
  obtain ⟨o, f, k, hq3⟩ : ∃ n d i, Num.mk x4 x5 = (n, d, i) := ⟨_, _, _, rfl⟩
  have he1 := Num.mk_end x0 x1
  have he2 := Num.mk_end x2 x3
  have he3 := Num.mk_end x4 x5
  rw [hq1] at he1
  rw [hq2] at he2
  rw [hq3] at he3
  simp only at he1 he2 he3
  have HQ1 := Lib.hid hq1
  have HQ2 := Lib.hid hq2
  have HQ3 := Lib.hid hq3
  by_cases hs : ¬ i + j + k = 0
  · have hs0 : (i + j + k == 0) = false := by simpa using hs
    have hs1 : (i + j + k != 0) = true := by simpa using hs
    clear hq1 hq2 hq3
    have hib : 0 ≤ i ∧ i ≤ 4 := by omega
    have hjb : 0 ≤ j ∧ j ≤ 4 := by omega
    have hkb : 0 ≤ k ∧ k ≤ 4 := by omega
    clear he1 he2 he3
    go_enter Try.func5, Try.ntmps5
    go_wp2_with (first | (go_at_call 8; refine (awake_any _).mono ?_; rintro e' w' ⟨rfl, nk, rfl⟩) | (go_at_call 9; ((with_reducible refine (make_to x0 x1 n d i HQ1.out (by omega) (by omega) (by omega) (by omega) _).mono ?_); rintro e' w' ⟨rfl, nk, rfl⟩)) | (go_at_call 9; ((with_reducible refine (make_to x2 x3 m e j HQ2.out (by omega) (by omega) (by omega) (by omega) _).mono ?_); rintro e' w' ⟨rfl, nk, rfl⟩)) | (go_at_call 9; ((with_reducible refine (make_to x4 x5 o f k HQ3.out (by omega) (by omega) (by omega) (by omega) _).mono ?_); rintro e' w' ⟨rfl, nk, rfl⟩)))
    go_ret
    exact ⟨rfl, ⟨rfl, rfl, rfl, by simp, fun k hk => by first | (exact Below.heap_alloc _ _ _ hk)⟩⟩
  obtain ⟨rfl, rfl, rfl⟩ : i = 0 ∧ j = 0 ∧ k = 0 := by omega
  obtain ⟨hr1, _⟩ := Num.mk_done hq1
  obtain ⟨hr2, _⟩ := Num.mk_done hq2
  obtain ⟨hr3, _⟩ := Num.mk_done hq3
  have hb1 := right_bd hr1
  have hb2 := right_bd hr2
  have hb3 := right_bd hr3
  clear he1 he2 he3 hq1 hq2 hq3
  obtain ⟨ab, hab⟩ : ∃ x, Num.less n d m e = x := ⟨_, rfl⟩
  obtain ⟨bc, hbc⟩ : ∃ x, Num.less m e o f = x := ⟨_, rfl⟩
  obtain ⟨ac, hac⟩ : ∃ x, Num.less n d o f = x := ⟨_, rfl⟩
  obtain ⟨ba, hba⟩ : ∃ x, Num.less m e n d = x := ⟨_, rfl⟩
  obtain ⟨x, y, s, ha1⟩ : ∃ x y s, Num.add n d o f = (x, y, s) := ⟨_, _, _, rfl⟩
  obtain ⟨z, v, t, ha2⟩ : ∃ x y s, Num.add m e o f = (x, y, s) := ⟨_, _, _, rfl⟩
  have f1 : ab = true → ba = false := by rintro rfl; rw [← hba]; exact Num.less_asym hr1 hr2 hab
  have f2 : ab = true → bc = true → ac = true := by rintro rfl rfl; rw [← hac]; exact Num.less_trans hr1 hr2 hr3 hab hbc
  have HNN := Lib.hid (Num.less_irr hr1)
  have HAB := Lib.hid hab
  have HBC := Lib.hid hbc
  have HAC := Lib.hid hac
  have HBA := Lib.hid hba
  have HA1 := Lib.hid ha1
  have HA2 := Lib.hid ha2
  by_cases hst : s = 0 ∧ t = 0
  · obtain ⟨rfl, rfl⟩ := hst
    have hx := right_bd (Num.add_right hr1 hr3 ha1)
    have hz := right_bd (Num.add_right hr2 hr3 ha2)
    have HXZ := Lib.hid ((Num.less_add hr1 hr2 hr3 ha1 ha2).trans hab)
    clear hab hbc hac hba ha1 ha2 hr1 hr2 hr3
    cases ab <;> cases bc <;> cases ac <;> cases ba
    any_goals (exfalso; revert f1; simp; done)
    any_goals (exfalso; revert f2; simp; done)
    all_goals
      clear f1 f2
      go_enter Try.func5, Try.ntmps5
      go_wp2_with (first | (go_at_call 8; refine (awake_any _).mono ?_; rintro e' w' ⟨rfl, nk, rfl⟩) | (go_at_call 9; ((with_reducible refine (make_to x0 x1 n d 0 HQ1.out (by omega) (by omega) (by omega) (by omega) _).mono ?_); rintro e' w' ⟨rfl, nk, rfl⟩)) | (go_at_call 9; ((with_reducible refine (make_to x2 x3 m e 0 HQ2.out (by omega) (by omega) (by omega) (by omega) _).mono ?_); rintro e' w' ⟨rfl, nk, rfl⟩)) | (go_at_call 9; ((with_reducible refine (make_to x4 x5 o f 0 HQ3.out (by omega) (by omega) (by omega) (by omega) _).mono ?_); rintro e' w' ⟨rfl, nk, rfl⟩)) | (go_at_call 15; ((with_reducible refine (less_to n d m e _ HAB.out (by omega) (by omega) (by omega) (by omega) (by omega) (by omega) (by omega) (by omega) _).mono ?_); rintro e' w' ⟨rfl, nk, rfl⟩)) | (go_at_call 15; ((with_reducible refine (less_to m e o f _ HBC.out (by omega) (by omega) (by omega) (by omega) (by omega) (by omega) (by omega) (by omega) _).mono ?_); rintro e' w' ⟨rfl, nk, rfl⟩)) | (go_at_call 15; ((with_reducible refine (less_to n d o f _ HAC.out (by omega) (by omega) (by omega) (by omega) (by omega) (by omega) (by omega) (by omega) _).mono ?_); rintro e' w' ⟨rfl, nk, rfl⟩)) | (go_at_call 15; ((with_reducible refine (less_to n d n d false HNN.out (by omega) (by omega) (by omega) (by omega) (by omega) (by omega) (by omega) (by omega) _).mono ?_); rintro e' w' ⟨rfl, nk, rfl⟩)) | (go_at_call 15; ((with_reducible refine (less_to m e n d _ HBA.out (by omega) (by omega) (by omega) (by omega) (by omega) (by omega) (by omega) (by omega) _).mono ?_); rintro e' w' ⟨rfl, nk, rfl⟩)) | (go_at_call 13; ((with_reducible refine (add_to n d o f x y 0 HA1.out (by omega) (by omega) (by omega) (by omega) (by omega) (by omega) (by omega) (by omega) _).mono ?_); rintro e' w' ⟨rfl, nk, rfl⟩)) | (go_at_call 13; ((with_reducible refine (add_to m e o f z v 0 HA2.out (by omega) (by omega) (by omega) (by omega) (by omega) (by omega) (by omega) (by omega) _).mono ?_); rintro e' w' ⟨rfl, nk, rfl⟩)) | (go_at_call 15; ((with_reducible refine (less_to x y z v _ HXZ.out (by omega) (by omega) (by omega) (by omega) (by omega) (by omega) (by omega) (by omega) _).mono ?_); rintro e' w' ⟨rfl, nk, rfl⟩)))
      go_ret
      exact ⟨rfl, ⟨rfl, rfl, rfl, by simp, fun k hk => by first | (exact Below.heap_alloc _ _ _ hk)⟩⟩
  · clear hab hbc hac hba ha1 ha2 hr1 hr2 hr3
    by_cases hs0 : s = 0
    · have ht1 : (t != 0) = true := by simp; omega
      subst hs0
      cases ab <;> cases bc <;> cases ac <;> cases ba
      any_goals (exfalso; revert f1; simp; done)
      any_goals (exfalso; revert f2; simp; done)
      all_goals
        clear f1 f2
        go_enter Try.func5, Try.ntmps5
        go_wp2_with (first | (go_at_call 8; refine (awake_any _).mono ?_; rintro e' w' ⟨rfl, nk, rfl⟩) | (go_at_call 9; ((with_reducible refine (make_to x0 x1 n d 0 HQ1.out (by omega) (by omega) (by omega) (by omega) _).mono ?_); rintro e' w' ⟨rfl, nk, rfl⟩)) | (go_at_call 9; ((with_reducible refine (make_to x2 x3 m e 0 HQ2.out (by omega) (by omega) (by omega) (by omega) _).mono ?_); rintro e' w' ⟨rfl, nk, rfl⟩)) | (go_at_call 9; ((with_reducible refine (make_to x4 x5 o f 0 HQ3.out (by omega) (by omega) (by omega) (by omega) _).mono ?_); rintro e' w' ⟨rfl, nk, rfl⟩)) | (go_at_call 15; ((with_reducible refine (less_to n d m e _ HAB.out (by omega) (by omega) (by omega) (by omega) (by omega) (by omega) (by omega) (by omega) _).mono ?_); rintro e' w' ⟨rfl, nk, rfl⟩)) | (go_at_call 15; ((with_reducible refine (less_to m e o f _ HBC.out (by omega) (by omega) (by omega) (by omega) (by omega) (by omega) (by omega) (by omega) _).mono ?_); rintro e' w' ⟨rfl, nk, rfl⟩)) | (go_at_call 15; ((with_reducible refine (less_to n d o f _ HAC.out (by omega) (by omega) (by omega) (by omega) (by omega) (by omega) (by omega) (by omega) _).mono ?_); rintro e' w' ⟨rfl, nk, rfl⟩)) | (go_at_call 15; ((with_reducible refine (less_to n d n d false HNN.out (by omega) (by omega) (by omega) (by omega) (by omega) (by omega) (by omega) (by omega) _).mono ?_); rintro e' w' ⟨rfl, nk, rfl⟩)) | (go_at_call 15; ((with_reducible refine (less_to m e n d _ HBA.out (by omega) (by omega) (by omega) (by omega) (by omega) (by omega) (by omega) (by omega) _).mono ?_); rintro e' w' ⟨rfl, nk, rfl⟩)) | (go_at_call 13; ((with_reducible refine (add_to n d o f x y 0 HA1.out (by omega) (by omega) (by omega) (by omega) (by omega) (by omega) (by omega) (by omega) _).mono ?_); rintro e' w' ⟨rfl, nk, rfl⟩)) | (go_at_call 13; ((with_reducible refine (add_to m e o f z v t HA2.out (by omega) (by omega) (by omega) (by omega) (by omega) (by omega) (by omega) (by omega) _).mono ?_); rintro e' w' ⟨rfl, nk, rfl⟩)))
        go_ret
        exact ⟨rfl, ⟨rfl, rfl, rfl, by simp, fun k hk => by first | (exact Below.heap_alloc _ _ _ hk)⟩⟩
    · have hs1 : (s != 0) = true := by simpa using hs0
      cases ab <;> cases bc <;> cases ac <;> cases ba
      any_goals (exfalso; revert f1; simp; done)
      any_goals (exfalso; revert f2; simp; done)
      all_goals
        clear f1 f2
        go_enter Try.func5, Try.ntmps5
        go_wp2_with (first | (go_at_call 8; refine (awake_any _).mono ?_; rintro e' w' ⟨rfl, nk, rfl⟩) | (go_at_call 9; ((with_reducible refine (make_to x0 x1 n d 0 HQ1.out (by omega) (by omega) (by omega) (by omega) _).mono ?_); rintro e' w' ⟨rfl, nk, rfl⟩)) | (go_at_call 9; ((with_reducible refine (make_to x2 x3 m e 0 HQ2.out (by omega) (by omega) (by omega) (by omega) _).mono ?_); rintro e' w' ⟨rfl, nk, rfl⟩)) | (go_at_call 9; ((with_reducible refine (make_to x4 x5 o f 0 HQ3.out (by omega) (by omega) (by omega) (by omega) _).mono ?_); rintro e' w' ⟨rfl, nk, rfl⟩)) | (go_at_call 15; ((with_reducible refine (less_to n d m e _ HAB.out (by omega) (by omega) (by omega) (by omega) (by omega) (by omega) (by omega) (by omega) _).mono ?_); rintro e' w' ⟨rfl, nk, rfl⟩)) | (go_at_call 15; ((with_reducible refine (less_to m e o f _ HBC.out (by omega) (by omega) (by omega) (by omega) (by omega) (by omega) (by omega) (by omega) _).mono ?_); rintro e' w' ⟨rfl, nk, rfl⟩)) | (go_at_call 15; ((with_reducible refine (less_to n d o f _ HAC.out (by omega) (by omega) (by omega) (by omega) (by omega) (by omega) (by omega) (by omega) _).mono ?_); rintro e' w' ⟨rfl, nk, rfl⟩)) | (go_at_call 15; ((with_reducible refine (less_to n d n d false HNN.out (by omega) (by omega) (by omega) (by omega) (by omega) (by omega) (by omega) (by omega) _).mono ?_); rintro e' w' ⟨rfl, nk, rfl⟩)) | (go_at_call 15; ((with_reducible refine (less_to m e n d _ HBA.out (by omega) (by omega) (by omega) (by omega) (by omega) (by omega) (by omega) (by omega) _).mono ?_); rintro e' w' ⟨rfl, nk, rfl⟩)) | (go_at_call 13; ((with_reducible refine (add_to n d o f x y s HA1.out (by omega) (by omega) (by omega) (by omega) (by omega) (by omega) (by omega) (by omega) _).mono ?_); rintro e' w' ⟨rfl, nk, rfl⟩)) | (go_at_call 13; ((with_reducible refine (add_to m e o f z v t HA2.out (by omega) (by omega) (by omega) (by omega) (by omega) (by omega) (by omega) (by omega) _).mono ?_); rintro e' w' ⟨rfl, nk, rfl⟩)))
        go_ret
        exact ⟨rfl, ⟨rfl, rfl, rfl, by simp, fun k hk => by first | (exact Below.heap_alloc _ _ _ hk)⟩⟩

end Go.Proofs.Ytapdglmldldnkaa
