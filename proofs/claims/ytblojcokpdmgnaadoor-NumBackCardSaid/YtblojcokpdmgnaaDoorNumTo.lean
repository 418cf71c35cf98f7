/-
  The contracts of num and corbelref01 with their answers named: for a body that calls one of them more than once.
-/
import Derived.Test.YtblojcokpdmgnaaDoorNum4
import Derived.Test.YtblojcokpdmgnaaDoorNumRat
namespace Go.Proofs.YtblojcokpdmgnaaDoor
open Go.RowKit

theorem make_to (n d x y z : Int) (hq : Num.mk n d = (x, y, z)) (h0 : -9223372036854775808 ≤ n) (h1 : n ≤ 9223372036854775807) (h2 : -9223372036854775808 ≤ d) (h3 : d ≤ 9223372036854775807) (w : World) :
    Calls Tryd.prog 15 #[.int .i64 n, .int .i64 d] w fun e' w' => e' = .returned (.tuple #[.int .i64 x, .int .i64 y, .int .i64 z]) ∧ ∃ k, w' = w.drewN k := by
  have := make_any n d (by assumption) (by assumption) (by assumption) (by assumption) w
  rw [hq] at this
  exact this

theorem add_to (n d m e x y z : Int) (hq : Num.add n d m e = (x, y, z)) (h0 : -9223372036854775808 ≤ n) (h1 : n ≤ 9223372036854775807) (h2 : -9223372036854775808 ≤ d) (h3 : d ≤ 9223372036854775807) (h4 : -9223372036854775808 ≤ m) (h5 : m ≤ 9223372036854775807) (h6 : -9223372036854775808 ≤ e) (h7 : e ≤ 9223372036854775807) (w : World) :
    Calls Tryd.prog 16 #[.int .i64 n, .int .i64 d, .int .i64 m, .int .i64 e] w fun e' w' => e' = .returned (.tuple #[.int .i64 x, .int .i64 y, .int .i64 z]) ∧ ∃ k, w' = w.drewN k := by
  have := add_any n d m e (by assumption) (by assumption) (by assumption) (by assumption) (by assumption) (by assumption) (by assumption) (by assumption) w
  rw [hq] at this
  exact this

theorem sub_to (n d m e x y z : Int) (hq : Num.sub n d m e = (x, y, z)) (h0 : -9223372036854775808 ≤ n) (h1 : n ≤ 9223372036854775807) (h2 : -9223372036854775808 ≤ d) (h3 : d ≤ 9223372036854775807) (h4 : -9223372036854775808 ≤ m) (h5 : m ≤ 9223372036854775807) (h6 : -9223372036854775808 ≤ e) (h7 : e ≤ 9223372036854775807) (w : World) :
    Calls Tryd.prog 17 #[.int .i64 n, .int .i64 d, .int .i64 m, .int .i64 e] w fun e' w' => e' = .returned (.tuple #[.int .i64 x, .int .i64 y, .int .i64 z]) ∧ ∃ k, w' = w.drewN k := by
  have := sub_any n d m e (by assumption) (by assumption) (by assumption) (by assumption) (by assumption) (by assumption) (by assumption) (by assumption) w
  rw [hq] at this
  exact this

theorem mul_to (n d m e x y z : Int) (hq : Num.mul n d m e = (x, y, z)) (h0 : -9223372036854775808 ≤ n) (h1 : n ≤ 9223372036854775807) (h2 : -9223372036854775808 ≤ d) (h3 : d ≤ 9223372036854775807) (h4 : -9223372036854775808 ≤ m) (h5 : m ≤ 9223372036854775807) (h6 : -9223372036854775808 ≤ e) (h7 : e ≤ 9223372036854775807) (w : World) :
    Calls Tryd.prog 18 #[.int .i64 n, .int .i64 d, .int .i64 m, .int .i64 e] w fun e' w' => e' = .returned (.tuple #[.int .i64 x, .int .i64 y, .int .i64 z]) ∧ ∃ k, w' = w.drewN k := by
  have := mul_any n d m e (by assumption) (by assumption) (by assumption) (by assumption) (by assumption) (by assumption) (by assumption) (by assumption) w
  rw [hq] at this
  exact this

theorem div_to (n d m e x y z : Int) (hq : Num.div n d m e = (x, y, z)) (h0 : -9223372036854775808 ≤ n) (h1 : n ≤ 9223372036854775807) (h2 : -9223372036854775808 ≤ d) (h3 : d ≤ 9223372036854775807) (h4 : -9223372036854775808 ≤ m) (h5 : m ≤ 9223372036854775807) (h6 : -9223372036854775808 ≤ e) (h7 : e ≤ 9223372036854775807) (w : World) :
    Calls Tryd.prog 19 #[.int .i64 n, .int .i64 d, .int .i64 m, .int .i64 e] w fun e' w' => e' = .returned (.tuple #[.int .i64 x, .int .i64 y, .int .i64 z]) ∧ ∃ k, w' = w.drewN k := by
  have := div_any n d m e (by assumption) (by assumption) (by assumption) (by assumption) (by assumption) (by assumption) (by assumption) (by assumption) w
  rw [hq] at this
  exact this

theorem rmake_to (n d x y z : Int) (hq : Num.mk n d = (x, y, z)) (h0 : -9223372036854775808 ≤ n) (h1 : n ≤ 9223372036854775807) (h2 : -9223372036854775808 ≤ d) (h3 : d ≤ 9223372036854775807) (w : World) :
    Calls Tryd.prog 36 #[.int .i64 n, .int .i64 d] w fun e' w' => e' = .returned (.tuple #[.int .i64 x, .int .i64 y, .int .i64 z]) ∧ ∃ k, w' = w.drewN k := by
  have := rmake_any n d (by assumption) (by assumption) (by assumption) (by assumption) w
  rw [hq] at this
  exact this

theorem less_to (n d m e : Int) (x : Bool) (hq : Num.less n d m e = x) (h0 : -9223372036854775808 ≤ n) (h1 : n ≤ 9223372036854775807) (h2 : -9223372036854775808 ≤ d) (h3 : d ≤ 9223372036854775807) (h4 : -9223372036854775808 ≤ m) (h5 : m ≤ 9223372036854775807) (h6 : -9223372036854775808 ≤ e) (h7 : e ≤ 9223372036854775807) (w : World) :
    Calls Tryd.prog 20 #[.int .i64 n, .int .i64 d, .int .i64 m, .int .i64 e] w fun e' w' => e' = .returned (.bool x) ∧ ∃ k, w' = w.drewN k := by
  have := less_any n d m e (by assumption) (by assumption) (by assumption) (by assumption) (by assumption) (by assumption) (by assumption) (by assumption) w
  rw [hq] at this
  exact this

theorem right_to (n d : Int) (x : Bool) (hq : Num.right n d = x) (h0 : -9223372036854775808 ≤ n) (h1 : n ≤ 9223372036854775807) (h2 : -9223372036854775808 ≤ d) (h3 : d ≤ 9223372036854775807) (w : World) :
    Calls Tryd.prog 37 #[.int .i64 n, .int .i64 d] w fun e' w' => e' = .returned (.bool x) ∧ ∃ k, w' = w.drewN k := by
  have := right_any n d (by assumption) (by assumption) (by assumption) (by assumption) w
  rw [hq] at this
  exact this

theorem rright_to (n d : Int) (x : Bool) (hq : Num.right n d = x) (h0 : -9223372036854775808 ≤ n) (h1 : n ≤ 9223372036854775807) (h2 : -9223372036854775808 ≤ d) (h3 : d ≤ 9223372036854775807) (w : World) :
    Calls Tryd.prog 39 #[.int .i64 n, .int .i64 d] w fun e' w' => e' = .returned (.bool x) ∧ ∃ k, w' = w.drewN k := by
  have := rright_any n d (by assumption) (by assumption) (by assumption) (by assumption) w
  rw [hq] at this
  exact this

theorem awake_any (w : World) : Calls Tryd.prog 10 #[] w fun e' w' => e' = .returned (.bool true) ∧ ∃ k, w' = w.drewN k := by
  have H1 := Lib.hid (show Num.mk 6 (-4) = (-3, 2, 0) by decide +kernel)
  have H2 := Lib.hid (show Num.add 1 2 1 3 = (5, 6, 0) by decide +kernel)
  have H3 := Lib.hid (show Num.mul 1073741824 1 4 1 = (0, 0, 3) by decide +kernel)
  go_enter Tryd.func10, Tryd.ntmps10
  go_wp2_with (first | (go_at_call 15; ((with_reducible refine (make_to 6 (-4) (-3) 2 0 H1.out (by omega) (by omega) (by omega) (by omega) _).mono ?_); rintro e' w' ⟨rfl, nk, rfl⟩)) | (go_at_call 16; ((with_reducible refine (add_to 1 2 1 3 5 6 0 H2.out (by omega) (by omega) (by omega) (by omega) (by omega) (by omega) (by omega) (by omega) _).mono ?_); rintro e' w' ⟨rfl, nk, rfl⟩)) | (go_at_call 18; ((with_reducible refine (mul_to 1073741824 1 4 1 0 0 3 H3.out (by omega) (by omega) (by omega) (by omega) (by omega) (by omega) (by omega) (by omega) _).mono ?_); rintro e' w' ⟨rfl, nk, rfl⟩)))
  go_ret
  exact ⟨rfl, by first | exact ⟨0, rfl⟩ | exact ⟨_, rfl⟩ | (simp only [World.drewN_drewN]; exact ⟨_, rfl⟩)⟩

end Go.Proofs.YtblojcokpdmgnaaDoor
