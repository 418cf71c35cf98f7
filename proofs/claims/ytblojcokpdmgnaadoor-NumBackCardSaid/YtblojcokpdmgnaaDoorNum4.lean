/-
  The contracts of Add, Sub, Mul, Div, Less of corbelref01: each computes what Num (NumLaw) says, and writes nothing.
-/
import Derived.Test.YtblojcokpdmgnaaDoorNum3
namespace Go.Proofs.YtblojcokpdmgnaaDoor
open Go.RowKit

theorem rgcd_to' (n d : Int) (G : Nat) (hG : Int.gcd n d = G) (h0 : n.natAbs ≤ 9223372036854775808) (h1 : 0 ≤ d) (h2 : d.natAbs ≤ 9223372036854775808) (w : World) :
    Calls Tryd.prog 62 #[.int .u64 n.natAbs, .int .u64 d] w fun e w' => e = .returned (.int .u64 G) ∧ w = w' := by
  refine (rgcd_int _ _ (by omega) (by omega) (by omega) (by omega) w).mono ?_
  rintro e w' ⟨rfl, k⟩
  exact ⟨by rw [← hG]; simp [Int.gcd], k⟩

end Go.Proofs.YtblojcokpdmgnaaDoor
