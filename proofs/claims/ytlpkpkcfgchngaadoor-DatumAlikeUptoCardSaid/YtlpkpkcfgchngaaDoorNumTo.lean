/-
  The contracts of num and corbelref01 with their answers named: for a body that calls one of them more than once.
-/
import Derived.Test.YtlpkpkcfgchngaaDoorNum4
import Derived.Test.YtlpkpkcfgchngaaDoorNumRat
namespace Go.Proofs.YtlpkpkcfgchngaaDoor
open Go.RowKit

theorem make_to (n d x y z : Int) (hq : Num.mk n d = (x, y, z)) (h0 : -9223372036854775808 ≤ n) (h1 : n ≤ 9223372036854775807) (h2 : -9223372036854775808 ≤ d) (h3 : d ≤ 9223372036854775807) (w : World) :
    Calls Tryd.prog 52 #[.int .i64 n, .int .i64 d] w fun e' w' => e' = .returned (.tuple #[.int .i64 x, .int .i64 y, .int .i64 z]) ∧ ∃ k, w' = w.drewN k := by
  have := make_any n d (by assumption) (by assumption) (by assumption) (by assumption) w
  rw [hq] at this
  exact this

theorem right_to (n d : Int) (x : Bool) (hq : Num.right n d = x) (h0 : -9223372036854775808 ≤ n) (h1 : n ≤ 9223372036854775807) (h2 : -9223372036854775808 ≤ d) (h3 : d ≤ 9223372036854775807) (w : World) :
    Calls Tryd.prog 26 #[.int .i64 n, .int .i64 d] w fun e' w' => e' = .returned (.bool x) ∧ ∃ k, w' = w.drewN k := by
  have := right_any n d (by assumption) (by assumption) (by assumption) (by assumption) w
  rw [hq] at this
  exact this

end Go.Proofs.YtlpkpkcfgchngaaDoor
