/-
  The contracts of Add, Sub, Mul, Div, Less of corbelref01: each computes what Num (NumLaw) says, and writes nothing.
-/
import Derived.Test.YtapdglmldldnkaaNum3
namespace Go.Proofs.Ytapdglmldldnkaa
open Go.RowKit

theorem radd_any (n d m e : Int) (h0 : -9223372036854775808 ≤ n) (h1 : n ≤ 9223372036854775807) (h2 : -9223372036854775808 ≤ d) (h3 : d ≤ 9223372036854775807) (h4 : -9223372036854775808 ≤ m) (h5 : m ≤ 9223372036854775807) (h6 : -9223372036854775808 ≤ e) (h7 : e ≤ 9223372036854775807) (w : World) :
    Calls Try.prog 18 #[.int .i64 n, .int .i64 d, .int .i64 m, .int .i64 e] w fun e' w' => e' = .returned (.tuple #[.int .i64 (Num.add n d m e).1, .int .i64 (Num.add n d m e).2.1, .int .i64 (Num.add n d m e).2.2]) ∧ ∃ k, w' = w.drewN k := by
  cases hr : Num.right n d
  · have HK := Lib.hid (show Num.add n d m e = (0, 0, 3) by simp [Num.add, hr])
    go_enter Try.func18, Try.ntmps18
    go_wp2_with (first | (go_at_call 12; refine (rright_any _ _ (by omega) (by omega) (by omega) (by omega) _).mono ?_; rintro e' w' ⟨rfl, nk, rfl⟩))
    go_ret3
    exact ⟨ret_3p HK.out, by first | exact ⟨0, rfl⟩ | exact ⟨_, rfl⟩ | (simp only [World.drewN_drewN]; exact ⟨_, rfl⟩)⟩
  cases hs : Num.right m e
  · have HK := Lib.hid (show Num.add n d m e = (0, 0, 3) by simp [Num.add, hs])
    go_enter Try.func18, Try.ntmps18
    go_wp2_with (first | (go_at_call 12; refine (rright_any _ _ (by omega) (by omega) (by omega) (by omega) _).mono ?_; rintro e' w' ⟨rfl, nk, rfl⟩))
    go_ret3
    exact ⟨ret_3p HK.out, by first | exact ⟨0, rfl⟩ | exact ⟨_, rfl⟩ | (simp only [World.drewN_drewN]; exact ⟨_, rfl⟩)⟩
  · have hb : Num.right n d = true ∧ Num.right m e = true := ⟨hr, hs⟩
    rw [Num.right_iff, Num.right_iff] at hb
    obtain ⟨⟨d1, d2, n1, n2, _⟩, e1, e2, m1, m2, _⟩ := hb
    have p1 := Num.mul_bd (a := n) (b := e) (by omega) (by omega) (by omega) (by omega)
    have p2 := Num.mul_bd (a := m) (b := d) (by omega) (by omega) (by omega) (by omega)
    have p3 := Num.mul_bd (a := d) (b := e) (by omega) (by omega) (by omega) (by omega)
    have p4 := Num.mul_bd (a := n) (b := m) (by omega) (by omega) (by omega) (by omega)
    have p5 := Num.mul_bd (a := d) (b := m) (by omega) (by omega) (by omega) (by omega)
    have HK := Lib.hid (show Num.add n d m e = Num.mk (n * e + m * d) (d * e) by simp [Num.add, hr, hs])
    go_enter Try.func18, Try.ntmps18
    go_wp2_with (first | (go_at_call 12; refine (rright_any _ _ (by omega) (by omega) (by omega) (by omega) _).mono ?_; rintro e' w' ⟨rfl, nk, rfl⟩) | (go_at_call 10; refine (rmake_any _ _ (by omega) (by omega) (by omega) (by omega) _).mono ?_; rintro e' w' ⟨rfl, nk, rfl⟩))
    go_ret3
    exact ⟨ret_3p HK.out, by first | exact ⟨0, rfl⟩ | exact ⟨_, rfl⟩ | (simp only [World.drewN_drewN]; exact ⟨_, rfl⟩)⟩

theorem rsub_any (n d m e : Int) (h0 : -9223372036854775808 ≤ n) (h1 : n ≤ 9223372036854775807) (h2 : -9223372036854775808 ≤ d) (h3 : d ≤ 9223372036854775807) (h4 : -9223372036854775808 ≤ m) (h5 : m ≤ 9223372036854775807) (h6 : -9223372036854775808 ≤ e) (h7 : e ≤ 9223372036854775807) (w : World) :
    Calls Try.prog 19 #[.int .i64 n, .int .i64 d, .int .i64 m, .int .i64 e] w fun e' w' => e' = .returned (.tuple #[.int .i64 (Num.rsub n d m e).1, .int .i64 (Num.rsub n d m e).2.1, .int .i64 (Num.rsub n d m e).2.2]) ∧ ∃ k, w' = w.drewN k := by
  cases hr : Num.right n d
  · have HK := Lib.hid (show Num.rsub n d m e = (0, 0, 3) by simp [Num.rsub, hr])
    go_enter Try.func19, Try.ntmps19
    go_wp2_with (first | (go_at_call 12; refine (rright_any _ _ (by omega) (by omega) (by omega) (by omega) _).mono ?_; rintro e' w' ⟨rfl, nk, rfl⟩))
    go_ret3
    exact ⟨ret_3p HK.out, by first | exact ⟨0, rfl⟩ | exact ⟨_, rfl⟩ | (simp only [World.drewN_drewN]; exact ⟨_, rfl⟩)⟩
  cases hs : Num.right m e
  · have HK := Lib.hid (show Num.rsub n d m e = (0, 0, 3) by simp [Num.rsub, hs])
    go_enter Try.func19, Try.ntmps19
    go_wp2_with (first | (go_at_call 12; refine (rright_any _ _ (by omega) (by omega) (by omega) (by omega) _).mono ?_; rintro e' w' ⟨rfl, nk, rfl⟩))
    go_ret3
    exact ⟨ret_3p HK.out, by first | exact ⟨0, rfl⟩ | exact ⟨_, rfl⟩ | (simp only [World.drewN_drewN]; exact ⟨_, rfl⟩)⟩
  · have hb : Num.right n d = true ∧ Num.right m e = true := ⟨hr, hs⟩
    rw [Num.right_iff, Num.right_iff] at hb
    obtain ⟨⟨d1, d2, n1, n2, _⟩, e1, e2, m1, m2, _⟩ := hb
    have p1 := Num.mul_bd (a := n) (b := e) (by omega) (by omega) (by omega) (by omega)
    have p2 := Num.mul_bd (a := m) (b := d) (by omega) (by omega) (by omega) (by omega)
    have p3 := Num.mul_bd (a := d) (b := e) (by omega) (by omega) (by omega) (by omega)
    have p4 := Num.mul_bd (a := n) (b := m) (by omega) (by omega) (by omega) (by omega)
    have p5 := Num.mul_bd (a := d) (b := m) (by omega) (by omega) (by omega) (by omega)
    have HK := Lib.hid (show Num.rsub n d m e = Num.add n d (-m) e by simp [Num.rsub, hr, hs])
    go_enter Try.func19, Try.ntmps19
    go_wp2_with (first | (go_at_call 12; refine (rright_any _ _ (by omega) (by omega) (by omega) (by omega) _).mono ?_; rintro e' w' ⟨rfl, nk, rfl⟩) | (go_at_call 18; refine (radd_any _ _ _ _ (by omega) (by omega) (by omega) (by omega) (by omega) (by omega) (by omega) (by omega) _).mono ?_; rintro e' w' ⟨rfl, nk, rfl⟩))
    go_ret3
    exact ⟨ret_3p HK.out, by first | exact ⟨0, rfl⟩ | exact ⟨_, rfl⟩ | (simp only [World.drewN_drewN]; exact ⟨_, rfl⟩)⟩

theorem rless_any (n d m e : Int) (h0 : -9223372036854775808 ≤ n) (h1 : n ≤ 9223372036854775807) (h2 : -9223372036854775808 ≤ d) (h3 : d ≤ 9223372036854775807) (h4 : -9223372036854775808 ≤ m) (h5 : m ≤ 9223372036854775807) (h6 : -9223372036854775808 ≤ e) (h7 : e ≤ 9223372036854775807) (w : World) :
    Calls Try.prog 22 #[.int .i64 n, .int .i64 d, .int .i64 m, .int .i64 e] w fun e' w' => e' = .returned (.bool (Num.less n d m e)) ∧ ∃ k, w' = w.drewN k := by
  cases hr : Num.right n d
  · have HK := Lib.hid (show Num.less n d m e = false by simp [Num.less, hr])
    go_enter Try.func22, Try.ntmps22
    go_wp2_with (first | (go_at_call 12; refine (rright_any _ _ (by omega) (by omega) (by omega) (by omega) _).mono ?_; rintro e' w' ⟨rfl, nk, rfl⟩))
    go_ret
    exact ⟨ret_bool HK.out.symm, by first | exact ⟨0, rfl⟩ | exact ⟨_, rfl⟩ | (simp only [World.drewN_drewN]; exact ⟨_, rfl⟩)⟩
  cases hs : Num.right m e
  · have HK := Lib.hid (show Num.less n d m e = false by simp [Num.less, hs])
    go_enter Try.func22, Try.ntmps22
    go_wp2_with (first | (go_at_call 12; refine (rright_any _ _ (by omega) (by omega) (by omega) (by omega) _).mono ?_; rintro e' w' ⟨rfl, nk, rfl⟩))
    go_ret
    exact ⟨ret_bool HK.out.symm, by first | exact ⟨0, rfl⟩ | exact ⟨_, rfl⟩ | (simp only [World.drewN_drewN]; exact ⟨_, rfl⟩)⟩
  · have hb : Num.right n d = true ∧ Num.right m e = true := ⟨hr, hs⟩
    rw [Num.right_iff, Num.right_iff] at hb
    obtain ⟨⟨d1, d2, n1, n2, _⟩, e1, e2, m1, m2, _⟩ := hb
    have p1 := Num.mul_bd (a := n) (b := e) (by omega) (by omega) (by omega) (by omega)
    have p2 := Num.mul_bd (a := m) (b := d) (by omega) (by omega) (by omega) (by omega)
    have p3 := Num.mul_bd (a := d) (b := e) (by omega) (by omega) (by omega) (by omega)
    have p4 := Num.mul_bd (a := n) (b := m) (by omega) (by omega) (by omega) (by omega)
    have p5 := Num.mul_bd (a := d) (b := m) (by omega) (by omega) (by omega) (by omega)
    have HK := Lib.hid (show Num.less n d m e = decide (n * e < m * d) by simp only [Num.less, hr, hs, Bool.true_and])
    go_enter Try.func22, Try.ntmps22
    go_wp2_with (first | (go_at_call 12; refine (rright_any _ _ (by omega) (by omega) (by omega) (by omega) _).mono ?_; rintro e' w' ⟨rfl, nk, rfl⟩))
    go_ret
    exact ⟨ret_bool HK.out.symm, by first | exact ⟨0, rfl⟩ | exact ⟨_, rfl⟩ | (simp only [World.drewN_drewN]; exact ⟨_, rfl⟩)⟩

theorem rgcd_to' (n d : Int) (G : Nat) (hG : Int.gcd n d = G) (h0 : n.natAbs ≤ 9223372036854775808) (h1 : 0 ≤ d) (h2 : d.natAbs ≤ 9223372036854775808) (w : World) :
    Calls Try.prog 26 #[.int .u64 n.natAbs, .int .u64 d] w fun e w' => e = .returned (.int .u64 G) ∧ w = w' := by
  refine (rgcd_int _ _ (by omega) (by omega) (by omega) (by omega) w).mono ?_
  rintro e w' ⟨rfl, k⟩
  exact ⟨by rw [← hG]; simp [Int.gcd], k⟩

theorem rmul_any (n d m e : Int) (h0 : -9223372036854775808 ≤ n) (h1 : n ≤ 9223372036854775807) (h2 : -9223372036854775808 ≤ d) (h3 : d ≤ 9223372036854775807) (h4 : -9223372036854775808 ≤ m) (h5 : m ≤ 9223372036854775807) (h6 : -9223372036854775808 ≤ e) (h7 : e ≤ 9223372036854775807) (w : World) :
    Calls Try.prog 20 #[.int .i64 n, .int .i64 d, .int .i64 m, .int .i64 e] w fun e' w' => e' = .returned (.tuple #[.int .i64 (Num.rmul n d m e).1, .int .i64 (Num.rmul n d m e).2.1, .int .i64 (Num.rmul n d m e).2.2]) ∧ ∃ k, w' = w.drewN k := by
  cases hr : Num.right n d
  · have HK := Lib.hid (show Num.rmul n d m e = (0, 0, 3) by simp [Num.rmul, hr])
    go_enter Try.func20, Try.ntmps20
    go_wp2_with (first | (go_at_call 12; refine (rright_any _ _ (by omega) (by omega) (by omega) (by omega) _).mono ?_; rintro e' w' ⟨rfl, nk, rfl⟩))
    go_ret3
    exact ⟨ret_3p HK.out, by first | exact ⟨0, rfl⟩ | exact ⟨_, rfl⟩ | (simp only [World.drewN_drewN]; exact ⟨_, rfl⟩)⟩
  cases hs : Num.right m e
  · have HK := Lib.hid (show Num.rmul n d m e = (0, 0, 3) by simp [Num.rmul, hs])
    go_enter Try.func20, Try.ntmps20
    go_wp2_with (first | (go_at_call 12; refine (rright_any _ _ (by omega) (by omega) (by omega) (by omega) _).mono ?_; rintro e' w' ⟨rfl, nk, rfl⟩))
    go_ret3
    exact ⟨ret_3p HK.out, by first | exact ⟨0, rfl⟩ | exact ⟨_, rfl⟩ | (simp only [World.drewN_drewN]; exact ⟨_, rfl⟩)⟩
  · have hb : Num.right n d = true ∧ Num.right m e = true := ⟨hr, hs⟩
    rw [Num.right_iff, Num.right_iff] at hb
    obtain ⟨⟨d1, d2, n1, n2, _⟩, e1, e2, m1, m2, _⟩ := hb
    have p1 := Num.mul_bd (a := n) (b := e) (by omega) (by omega) (by omega) (by omega)
    have p2 := Num.mul_bd (a := m) (b := d) (by omega) (by omega) (by omega) (by omega)
    have p3 := Num.mul_bd (a := d) (b := e) (by omega) (by omega) (by omega) (by omega)
    have p4 := Num.mul_bd (a := n) (b := m) (by omega) (by omega) (by omega) (by omega)
    have p5 := Num.mul_bd (a := d) (b := m) (by omega) (by omega) (by omega) (by omega)
    have hg := Num.gcd_ne (n := n) (d := e) (by omega)
    have hh := Num.gcd_ne (n := m) (d := d) (by omega)
    have gl := Num.gcd_le (n := n) (d := e) (by omega)
    have hl := Num.gcd_le (n := m) (d := d) (by omega)
    have t1 := Num.tdiv_bd (n := n) (g := Int.gcd n e) (by omega) (by omega)
    have t2 := Num.tdiv_bd (n := m) (g := Int.gcd m d) (by omega) (by omega)
    have t3 := Num.tdiv_bd (n := d) (g := Int.gcd m d) (by omega) (by omega)
    have t4 := Num.tdiv_bd (n := e) (g := Int.gcd n e) (by omega) (by omega)
    have q1 := Num.mul_bd t1.1 t1.2 t2.1 t2.2
    have q2 := Num.mul_bd t3.1 t3.2 t4.1 t4.2
    have HK := Lib.hid (show Num.rmul n d m e = Num.mk (n.tdiv (Int.gcd n e) * m.tdiv (Int.gcd m d)) (d.tdiv (Int.gcd m d) * e.tdiv (Int.gcd n e)) by simp only [Num.rmul, hr, hs, Bool.and_true, if_true])
    generalize hG : Int.gcd n e = G at *
    generalize hH : Int.gcd m d = H at *
    have HG := Lib.hid hG
    have HH := Lib.hid hH
    clear hG hH
    have u1 : d / (H : Int) = d.tdiv H := (Int.tdiv_eq_ediv_of_nonneg (by omega)).symm
    have u2 : e / (G : Int) = e.tdiv G := (Int.tdiv_eq_ediv_of_nonneg (by omega)).symm
    generalize hN1 : n.tdiv G = N1 at *
    generalize hM1 : m.tdiv H = M1 at *
    generalize hD1 : d.tdiv H = D1 at *
    generalize hE1 : e.tdiv G = E1 at *
    have hg0 : ((G : Int) == 0) = false := by simpa using hg
    have hh0 : ((H : Int) == 0) = false := by simpa using hh
    go_enter Try.func20, Try.ntmps20
    go_wp2_with (first | (go_at_call 12; refine (rright_any _ _ (by omega) (by omega) (by omega) (by omega) _).mono ?_; rintro e' w' ⟨rfl, nk, rfl⟩) | (go_at_call 25; refine (rsize_any _ (by omega) (by omega) _).mono ?_; rintro e' w' ⟨rfl, rfl⟩) | (go_at_call 26; ((with_reducible refine (rgcd_to' n e G HG.out (by omega) (by omega) (by omega) _).mono ?_); rintro e' w' ⟨rfl, rfl⟩)) | (go_at_call 26; ((with_reducible refine (rgcd_to' m d H HH.out (by omega) (by omega) (by omega) _).mono ?_); rintro e' w' ⟨rfl, rfl⟩)))
    go_quiet ((go_at_call 10; exact quiet_of2 (rmake_any _ _ (by omega) (by omega) (by omega) (by omega) _)))
    go_wp2
    go_ret3
    exact ⟨ret_3p HK.out, by first | exact ⟨0, rfl⟩ | exact ⟨_, rfl⟩ | (simp only [World.drewN_drewN]; exact ⟨_, rfl⟩)⟩

theorem rdiv_any (n d m e : Int) (h0 : -9223372036854775808 ≤ n) (h1 : n ≤ 9223372036854775807) (h2 : -9223372036854775808 ≤ d) (h3 : d ≤ 9223372036854775807) (h4 : -9223372036854775808 ≤ m) (h5 : m ≤ 9223372036854775807) (h6 : -9223372036854775808 ≤ e) (h7 : e ≤ 9223372036854775807) (w : World) :
    Calls Try.prog 21 #[.int .i64 n, .int .i64 d, .int .i64 m, .int .i64 e] w fun e' w' => e' = .returned (.tuple #[.int .i64 (Num.rdiv n d m e).1, .int .i64 (Num.rdiv n d m e).2.1, .int .i64 (Num.rdiv n d m e).2.2]) ∧ ∃ k, w' = w.drewN k := by
  cases hr : Num.right n d
  · have HK := Lib.hid (show Num.rdiv n d m e = (0, 0, 3) by simp [Num.rdiv, hr])
    go_enter Try.func21, Try.ntmps21
    go_wp2_with (first | (go_at_call 12; refine (rright_any _ _ (by omega) (by omega) (by omega) (by omega) _).mono ?_; rintro e' w' ⟨rfl, nk, rfl⟩))
    go_ret3
    exact ⟨ret_3p HK.out, by first | exact ⟨0, rfl⟩ | exact ⟨_, rfl⟩ | (simp only [World.drewN_drewN]; exact ⟨_, rfl⟩)⟩
  cases hs : Num.right m e
  · have HK := Lib.hid (show Num.rdiv n d m e = (0, 0, 3) by simp [Num.rdiv, hs])
    go_enter Try.func21, Try.ntmps21
    go_wp2_with (first | (go_at_call 12; refine (rright_any _ _ (by omega) (by omega) (by omega) (by omega) _).mono ?_; rintro e' w' ⟨rfl, nk, rfl⟩))
    go_ret3
    exact ⟨ret_3p HK.out, by first | exact ⟨0, rfl⟩ | exact ⟨_, rfl⟩ | (simp only [World.drewN_drewN]; exact ⟨_, rfl⟩)⟩
  · have hb : Num.right n d = true ∧ Num.right m e = true := ⟨hr, hs⟩
    rw [Num.right_iff, Num.right_iff] at hb
    obtain ⟨⟨d1, d2, n1, n2, _⟩, e1, e2, m1, m2, _⟩ := hb
    have p1 := Num.mul_bd (a := n) (b := e) (by omega) (by omega) (by omega) (by omega)
    have p2 := Num.mul_bd (a := m) (b := d) (by omega) (by omega) (by omega) (by omega)
    have p3 := Num.mul_bd (a := d) (b := e) (by omega) (by omega) (by omega) (by omega)
    have p4 := Num.mul_bd (a := n) (b := m) (by omega) (by omega) (by omega) (by omega)
    have p5 := Num.mul_bd (a := d) (b := m) (by omega) (by omega) (by omega) (by omega)
    by_cases hm : m = 0
    · subst hm
      have HK := Lib.hid (show Num.rdiv n d 0 e = (0, 0, 4) by simp [Num.rdiv, hr, hs])
      go_enter Try.func21, Try.ntmps21
      go_wp2_with (first | (go_at_call 12; refine (rright_any _ _ (by omega) (by omega) (by omega) (by omega) _).mono ?_; rintro e' w' ⟨rfl, nk, rfl⟩))
      go_ret3
      exact ⟨ret_3p HK.out, by first | exact ⟨0, rfl⟩ | exact ⟨_, rfl⟩ | (simp only [World.drewN_drewN]; exact ⟨_, rfl⟩)⟩
    have hm0 : (m == 0) = false := by simpa using hm
    by_cases hl : m < 0
    · have HK := Lib.hid (show Num.rdiv n d m e = Num.rmul n d (-e) (-m) by simp [Num.rdiv, hr, hs, hm, hl])
      go_enter Try.func21, Try.ntmps21
      go_wp2_with (first | (go_at_call 12; refine (rright_any _ _ (by omega) (by omega) (by omega) (by omega) _).mono ?_; rintro e' w' ⟨rfl, nk, rfl⟩) | (go_at_call 20; refine (rmul_any _ _ _ _ (by omega) (by omega) (by omega) (by omega) (by omega) (by omega) (by omega) (by omega) _).mono ?_; rintro e' w' ⟨rfl, nk, rfl⟩))
      go_ret3
      exact ⟨ret_3p HK.out, by first | exact ⟨0, rfl⟩ | exact ⟨_, rfl⟩ | (simp only [World.drewN_drewN]; exact ⟨_, rfl⟩)⟩
    · have HK := Lib.hid (show Num.rdiv n d m e = Num.rmul n d e m by simp [Num.rdiv, hr, hs, hm, hl])
      go_enter Try.func21, Try.ntmps21
      go_wp2_with (first | (go_at_call 12; refine (rright_any _ _ (by omega) (by omega) (by omega) (by omega) _).mono ?_; rintro e' w' ⟨rfl, nk, rfl⟩) | (go_at_call 20; refine (rmul_any _ _ _ _ (by omega) (by omega) (by omega) (by omega) (by omega) (by omega) (by omega) (by omega) _).mono ?_; rintro e' w' ⟨rfl, nk, rfl⟩))
      go_ret3
      exact ⟨ret_3p HK.out, by first | exact ⟨0, rfl⟩ | exact ⟨_, rfl⟩ | (simp only [World.drewN_drewN]; exact ⟨_, rfl⟩)⟩

end Go.Proofs.Ytapdglmldldnkaa
