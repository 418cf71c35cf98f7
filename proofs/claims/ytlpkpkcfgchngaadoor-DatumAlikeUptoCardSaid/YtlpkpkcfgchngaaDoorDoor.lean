/-
  The frame of a law's row that lists variables: the world of the witness, and what the list gives the walks.
-/
import Derived.Test.YtlpkpkcfgchngaaDoorLaw
import Derived.Test.YtlpkpkcfgchngaaDoorEnv
import Derived.Deep.DeepHandedRow
import Derived.Deep.DeepWitnessRowRef
import Derived.LaidMore
import Derived.LaidHandle
import Derived.MakeChecks
import Derived.Stop.LaidErr
import Derived.Stop.Joined
import Derived.SevenTiedAt
namespace Go.Proofs.YtlpkpkcfgchngaaDoor
open Go.ChangeShapes Go.WideShapes Go.ChangeAt Go.RowKit

/-- The heap that the door's own run leaves, and Go's own pinned table laid in it. -/
noncomputable def laidWorld (os : Os) : World :=
  { World.doorLaid Tryd.prog 400 os with heap := (World.doorLaid Tryd.prog 400 os).heap.modify 0 fun
      | .cells _ t frozen => .cells (Go.Pinned.utf8FirstZ.map fun z : Nat => Value.int .u8 (z : Int)).toArray t frozen
      | o => o }

theorem env_of_head {W : World} {rest : List (String × DataW Unit)} (h : laidMet Tryd.prog (("internal/strconv.uint64pow10", Rows.laid_internal_strconv_uint64pow10) :: rest) W) : Env W := by
  have e : (Rows.laid_internal_strconv_uint64pow10 : DataW Unit) = Lib.tabData .u64 Lib.pow10Tab := by kernel_rfl
  rw [e] at h
  exact Lib.tabIs_of_head (g := 3) (t := 113) (e := 60) (n := 20) (by kernel_rfl) (by kernel_rfl) Tryd.underlying113 Tryd.underlying60 (by kernel_rfl) (by kernel_rfl) h

end Go.Proofs.YtlpkpkcfgchngaaDoor
