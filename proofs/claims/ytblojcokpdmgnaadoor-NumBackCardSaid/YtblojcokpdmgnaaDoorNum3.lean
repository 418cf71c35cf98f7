/-
  The contracts of Add, Sub, Mul, Div, Less of num and of corbelref01: each computes what Num (NumLaw) says, and writes nothing.
-/
import Derived.Test.YtblojcokpdmgnaaDoorNum2
namespace Go.Proofs.YtblojcokpdmgnaaDoor
open Go.RowKit

theorem both_any (n d m e : Int) (h0 : -9223372036854775808 ≤ n) (h1 : n ≤ 9223372036854775807) (h2 : -9223372036854775808 ≤ d) (h3 : d ≤ 9223372036854775807) (h4 : -9223372036854775808 ≤ m) (h5 : m ≤ 9223372036854775807) (h6 : -9223372036854775808 ≤ e) (h7 : e ≤ 9223372036854775807) (w : World) :
    Calls Tryd.prog 44 #[.int .i64 n, .int .i64 d, .int .i64 m, .int .i64 e] w fun e' w' => e' = .returned (.bool (Num.right n d && Num.right m e)) ∧ ∃ k, w' = w.drewN k := by
  cases hr : Num.right n d
  all_goals
    go_enter Tryd.func44, Tryd.ntmps44
    go_wp2_with (first | (go_at_call 37; refine (right_any _ _ (by omega) (by omega) (by omega) (by omega) _).mono ?_; rintro e' w' ⟨rfl, nk, rfl⟩))
    go_ret
    exact ⟨ret_bool (by simp), by first | exact ⟨0, rfl⟩ | exact ⟨_, rfl⟩ | (simp only [World.drewN_drewN]; exact ⟨_, rfl⟩)⟩

theorem add_any (n d m e : Int) (h0 : -9223372036854775808 ≤ n) (h1 : n ≤ 9223372036854775807) (h2 : -9223372036854775808 ≤ d) (h3 : d ≤ 9223372036854775807) (h4 : -9223372036854775808 ≤ m) (h5 : m ≤ 9223372036854775807) (h6 : -9223372036854775808 ≤ e) (h7 : e ≤ 9223372036854775807) (w : World) :
    Calls Tryd.prog 16 #[.int .i64 n, .int .i64 d, .int .i64 m, .int .i64 e] w fun e' w' => e' = .returned (.tuple #[.int .i64 (Num.add n d m e).1, .int .i64 (Num.add n d m e).2.1, .int .i64 (Num.add n d m e).2.2]) ∧ ∃ k, w' = w.drewN k := by
  cases hr : (Num.right n d && Num.right m e)
  · have HK := Lib.hid (show Num.add n d m e = (0, 0, 3) by simp [Num.add, hr])
    go_enter Tryd.func16, Tryd.ntmps16
    go_wp2_with (first | (go_at_call 44; refine (both_any _ _ _ _ (by omega) (by omega) (by omega) (by omega) (by omega) (by omega) (by omega) (by omega) _).mono ?_; rintro e' w' ⟨rfl, nk, rfl⟩))
    go_ret3
    exact ⟨ret_3p HK.out, by first | exact ⟨0, rfl⟩ | exact ⟨_, rfl⟩ | (simp only [World.drewN_drewN]; exact ⟨_, rfl⟩)⟩
  · have hb := hr
    rw [Bool.and_eq_true, Num.right_iff, Num.right_iff] at hb
    obtain ⟨⟨d1, d2, n1, n2, _⟩, e1, e2, m1, m2, _⟩ := hb
    have p1 := Num.mul_bd (a := n) (b := e) (by omega) (by omega) (by omega) (by omega)
    have p2 := Num.mul_bd (a := m) (b := d) (by omega) (by omega) (by omega) (by omega)
    have p3 := Num.mul_bd (a := d) (b := e) (by omega) (by omega) (by omega) (by omega)
    have p4 := Num.mul_bd (a := n) (b := m) (by omega) (by omega) (by omega) (by omega)
    have p5 := Num.mul_bd (a := d) (b := m) (by omega) (by omega) (by omega) (by omega)
    have HK := Lib.hid (show Num.add n d m e = Num.mk (n * e + m * d) (d * e) by simp [Num.add, hr])
    go_enter Tryd.func16, Tryd.ntmps16
    go_wp2_with (first | (go_at_call 44; refine (both_any _ _ _ _ (by omega) (by omega) (by omega) (by omega) (by omega) (by omega) (by omega) (by omega) _).mono ?_; rintro e' w' ⟨rfl, nk, rfl⟩) | (go_at_call 15; refine (make_any _ _ (by omega) (by omega) (by omega) (by omega) _).mono ?_; rintro e' w' ⟨rfl, nk, rfl⟩))
    go_ret3
    exact ⟨ret_3p HK.out, by first | exact ⟨0, rfl⟩ | exact ⟨_, rfl⟩ | (simp only [World.drewN_drewN]; exact ⟨_, rfl⟩)⟩

theorem sub_any (n d m e : Int) (h0 : -9223372036854775808 ≤ n) (h1 : n ≤ 9223372036854775807) (h2 : -9223372036854775808 ≤ d) (h3 : d ≤ 9223372036854775807) (h4 : -9223372036854775808 ≤ m) (h5 : m ≤ 9223372036854775807) (h6 : -9223372036854775808 ≤ e) (h7 : e ≤ 9223372036854775807) (w : World) :
    Calls Tryd.prog 17 #[.int .i64 n, .int .i64 d, .int .i64 m, .int .i64 e] w fun e' w' => e' = .returned (.tuple #[.int .i64 (Num.sub n d m e).1, .int .i64 (Num.sub n d m e).2.1, .int .i64 (Num.sub n d m e).2.2]) ∧ ∃ k, w' = w.drewN k := by
  cases hr : (Num.right n d && Num.right m e)
  · have HK := Lib.hid (show Num.sub n d m e = (0, 0, 3) by simp [Num.sub, hr])
    go_enter Tryd.func17, Tryd.ntmps17
    go_wp2_with (first | (go_at_call 44; refine (both_any _ _ _ _ (by omega) (by omega) (by omega) (by omega) (by omega) (by omega) (by omega) (by omega) _).mono ?_; rintro e' w' ⟨rfl, nk, rfl⟩))
    go_ret3
    exact ⟨ret_3p HK.out, by first | exact ⟨0, rfl⟩ | exact ⟨_, rfl⟩ | (simp only [World.drewN_drewN]; exact ⟨_, rfl⟩)⟩
  · have hb := hr
    rw [Bool.and_eq_true, Num.right_iff, Num.right_iff] at hb
    obtain ⟨⟨d1, d2, n1, n2, _⟩, e1, e2, m1, m2, _⟩ := hb
    have p1 := Num.mul_bd (a := n) (b := e) (by omega) (by omega) (by omega) (by omega)
    have p2 := Num.mul_bd (a := m) (b := d) (by omega) (by omega) (by omega) (by omega)
    have p3 := Num.mul_bd (a := d) (b := e) (by omega) (by omega) (by omega) (by omega)
    have p4 := Num.mul_bd (a := n) (b := m) (by omega) (by omega) (by omega) (by omega)
    have p5 := Num.mul_bd (a := d) (b := m) (by omega) (by omega) (by omega) (by omega)
    have HK := Lib.hid (show Num.sub n d m e = Num.mk (n * e - m * d) (d * e) by simp [Num.sub, hr])
    go_enter Tryd.func17, Tryd.ntmps17
    go_wp2_with (first | (go_at_call 44; refine (both_any _ _ _ _ (by omega) (by omega) (by omega) (by omega) (by omega) (by omega) (by omega) (by omega) _).mono ?_; rintro e' w' ⟨rfl, nk, rfl⟩) | (go_at_call 15; refine (make_any _ _ (by omega) (by omega) (by omega) (by omega) _).mono ?_; rintro e' w' ⟨rfl, nk, rfl⟩))
    go_ret3
    exact ⟨ret_3p HK.out, by first | exact ⟨0, rfl⟩ | exact ⟨_, rfl⟩ | (simp only [World.drewN_drewN]; exact ⟨_, rfl⟩)⟩

theorem mul_any (n d m e : Int) (h0 : -9223372036854775808 ≤ n) (h1 : n ≤ 9223372036854775807) (h2 : -9223372036854775808 ≤ d) (h3 : d ≤ 9223372036854775807) (h4 : -9223372036854775808 ≤ m) (h5 : m ≤ 9223372036854775807) (h6 : -9223372036854775808 ≤ e) (h7 : e ≤ 9223372036854775807) (w : World) :
    Calls Tryd.prog 18 #[.int .i64 n, .int .i64 d, .int .i64 m, .int .i64 e] w fun e' w' => e' = .returned (.tuple #[.int .i64 (Num.mul n d m e).1, .int .i64 (Num.mul n d m e).2.1, .int .i64 (Num.mul n d m e).2.2]) ∧ ∃ k, w' = w.drewN k := by
  cases hr : (Num.right n d && Num.right m e)
  · have HK := Lib.hid (show Num.mul n d m e = (0, 0, 3) by simp [Num.mul, hr])
    go_enter Tryd.func18, Tryd.ntmps18
    go_wp2_with (first | (go_at_call 44; refine (both_any _ _ _ _ (by omega) (by omega) (by omega) (by omega) (by omega) (by omega) (by omega) (by omega) _).mono ?_; rintro e' w' ⟨rfl, nk, rfl⟩))
    go_ret3
    exact ⟨ret_3p HK.out, by first | exact ⟨0, rfl⟩ | exact ⟨_, rfl⟩ | (simp only [World.drewN_drewN]; exact ⟨_, rfl⟩)⟩
  · have hb := hr
    rw [Bool.and_eq_true, Num.right_iff, Num.right_iff] at hb
    obtain ⟨⟨d1, d2, n1, n2, _⟩, e1, e2, m1, m2, _⟩ := hb
    have p1 := Num.mul_bd (a := n) (b := e) (by omega) (by omega) (by omega) (by omega)
    have p2 := Num.mul_bd (a := m) (b := d) (by omega) (by omega) (by omega) (by omega)
    have p3 := Num.mul_bd (a := d) (b := e) (by omega) (by omega) (by omega) (by omega)
    have p4 := Num.mul_bd (a := n) (b := m) (by omega) (by omega) (by omega) (by omega)
    have p5 := Num.mul_bd (a := d) (b := m) (by omega) (by omega) (by omega) (by omega)
    have HK := Lib.hid (show Num.mul n d m e = Num.mk (n * m) (d * e) by simp [Num.mul, hr])
    go_enter Tryd.func18, Tryd.ntmps18
    go_wp2_with (first | (go_at_call 44; refine (both_any _ _ _ _ (by omega) (by omega) (by omega) (by omega) (by omega) (by omega) (by omega) (by omega) _).mono ?_; rintro e' w' ⟨rfl, nk, rfl⟩) | (go_at_call 15; refine (make_any _ _ (by omega) (by omega) (by omega) (by omega) _).mono ?_; rintro e' w' ⟨rfl, nk, rfl⟩))
    go_ret3
    exact ⟨ret_3p HK.out, by first | exact ⟨0, rfl⟩ | exact ⟨_, rfl⟩ | (simp only [World.drewN_drewN]; exact ⟨_, rfl⟩)⟩

theorem div_any (n d m e : Int) (h0 : -9223372036854775808 ≤ n) (h1 : n ≤ 9223372036854775807) (h2 : -9223372036854775808 ≤ d) (h3 : d ≤ 9223372036854775807) (h4 : -9223372036854775808 ≤ m) (h5 : m ≤ 9223372036854775807) (h6 : -9223372036854775808 ≤ e) (h7 : e ≤ 9223372036854775807) (w : World) :
    Calls Tryd.prog 19 #[.int .i64 n, .int .i64 d, .int .i64 m, .int .i64 e] w fun e' w' => e' = .returned (.tuple #[.int .i64 (Num.div n d m e).1, .int .i64 (Num.div n d m e).2.1, .int .i64 (Num.div n d m e).2.2]) ∧ ∃ k, w' = w.drewN k := by
  cases hr : (Num.right n d && Num.right m e)
  · have HK := Lib.hid (show Num.div n d m e = (0, 0, 3) by simp [Num.div, hr])
    go_enter Tryd.func19, Tryd.ntmps19
    go_wp2_with (first | (go_at_call 44; refine (both_any _ _ _ _ (by omega) (by omega) (by omega) (by omega) (by omega) (by omega) (by omega) (by omega) _).mono ?_; rintro e' w' ⟨rfl, nk, rfl⟩))
    go_ret3
    exact ⟨ret_3p HK.out, by first | exact ⟨0, rfl⟩ | exact ⟨_, rfl⟩ | (simp only [World.drewN_drewN]; exact ⟨_, rfl⟩)⟩
  · have hb := hr
    rw [Bool.and_eq_true, Num.right_iff, Num.right_iff] at hb
    obtain ⟨⟨d1, d2, n1, n2, _⟩, e1, e2, m1, m2, _⟩ := hb
    have p1 := Num.mul_bd (a := n) (b := e) (by omega) (by omega) (by omega) (by omega)
    have p2 := Num.mul_bd (a := m) (b := d) (by omega) (by omega) (by omega) (by omega)
    have p3 := Num.mul_bd (a := d) (b := e) (by omega) (by omega) (by omega) (by omega)
    have p4 := Num.mul_bd (a := n) (b := m) (by omega) (by omega) (by omega) (by omega)
    have p5 := Num.mul_bd (a := d) (b := m) (by omega) (by omega) (by omega) (by omega)
    have HK := Lib.hid (show Num.div n d m e = Num.mk (n * e) (d * m) by simp [Num.div, hr])
    go_enter Tryd.func19, Tryd.ntmps19
    go_wp2_with (first | (go_at_call 44; refine (both_any _ _ _ _ (by omega) (by omega) (by omega) (by omega) (by omega) (by omega) (by omega) (by omega) _).mono ?_; rintro e' w' ⟨rfl, nk, rfl⟩) | (go_at_call 15; refine (make_any _ _ (by omega) (by omega) (by omega) (by omega) _).mono ?_; rintro e' w' ⟨rfl, nk, rfl⟩))
    go_ret3
    exact ⟨ret_3p HK.out, by first | exact ⟨0, rfl⟩ | exact ⟨_, rfl⟩ | (simp only [World.drewN_drewN]; exact ⟨_, rfl⟩)⟩

theorem less_any (n d m e : Int) (h0 : -9223372036854775808 ≤ n) (h1 : n ≤ 9223372036854775807) (h2 : -9223372036854775808 ≤ d) (h3 : d ≤ 9223372036854775807) (h4 : -9223372036854775808 ≤ m) (h5 : m ≤ 9223372036854775807) (h6 : -9223372036854775808 ≤ e) (h7 : e ≤ 9223372036854775807) (w : World) :
    Calls Tryd.prog 20 #[.int .i64 n, .int .i64 d, .int .i64 m, .int .i64 e] w fun e' w' => e' = .returned (.bool (Num.less n d m e)) ∧ ∃ k, w' = w.drewN k := by
  cases hr : (Num.right n d && Num.right m e)
  · have HK := Lib.hid (show Num.less n d m e = false by simp only [Num.less, hr, Bool.false_and])
    go_enter Tryd.func20, Tryd.ntmps20
    go_wp2_with (first | (go_at_call 44; refine (both_any _ _ _ _ (by omega) (by omega) (by omega) (by omega) (by omega) (by omega) (by omega) (by omega) _).mono ?_; rintro e' w' ⟨rfl, nk, rfl⟩))
    go_ret
    exact ⟨ret_bool HK.out.symm, by first | exact ⟨0, rfl⟩ | exact ⟨_, rfl⟩ | (simp only [World.drewN_drewN]; exact ⟨_, rfl⟩)⟩
  · have hb := hr
    rw [Bool.and_eq_true, Num.right_iff, Num.right_iff] at hb
    obtain ⟨⟨d1, d2, n1, n2, _⟩, e1, e2, m1, m2, _⟩ := hb
    have p1 := Num.mul_bd (a := n) (b := e) (by omega) (by omega) (by omega) (by omega)
    have p2 := Num.mul_bd (a := m) (b := d) (by omega) (by omega) (by omega) (by omega)
    have p3 := Num.mul_bd (a := d) (b := e) (by omega) (by omega) (by omega) (by omega)
    have p4 := Num.mul_bd (a := n) (b := m) (by omega) (by omega) (by omega) (by omega)
    have p5 := Num.mul_bd (a := d) (b := m) (by omega) (by omega) (by omega) (by omega)
    have HK := Lib.hid (show Num.less n d m e = decide (n * e < m * d) by simp only [Num.less, hr, Bool.true_and])
    go_enter Tryd.func20, Tryd.ntmps20
    go_wp2_with (first | (go_at_call 44; refine (both_any _ _ _ _ (by omega) (by omega) (by omega) (by omega) (by omega) (by omega) (by omega) (by omega) _).mono ?_; rintro e' w' ⟨rfl, nk, rfl⟩))
    go_ret
    exact ⟨ret_bool HK.out.symm, by first | exact ⟨0, rfl⟩ | exact ⟨_, rfl⟩ | (simp only [World.drewN_drewN]; exact ⟨_, rfl⟩)⟩

end Go.Proofs.YtblojcokpdmgnaaDoor
