/-
  The contracts of corbelref02.size, Size, Same.
-/
import Derived.Test.YtnpiekniignfcaaGreatDoorRRightW
import Derived.Test.YtnpiekniignfcaaGreatDoorRAlike
import Derived.Test.YtnpiekniignfcaaGreatDoorRights
namespace Go.Proofs.YtnpiekniignfcaaGreatDoor
open Go.RowKit

end Go.Proofs.YtnpiekniignfcaaGreatDoor
