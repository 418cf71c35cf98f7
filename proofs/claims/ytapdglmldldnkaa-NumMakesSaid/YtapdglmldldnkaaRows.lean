/-
  No cell of these rows narrows 'for every input' (looked for: loops, veiled, ifaces, maps, wideKeys, modest, calm, conditions, laid).
  DERIVED. THE GIVEN ROWS OF THIS SEAT. 5 by the template 'for every input the law returns true; each argument reads behind the call as it read before'; 0 by the template 'total and deterministic' (their statements: YtapdglmldldnkaaTotals.lean).
  GIVEN WITH THE SEED: the statements are not yours to turn. If you find one false, say at which input.
  Laid BY PROGRAM, IN A SANDBOX (cutbox-rows.mjs): the forced cells as the released guide's own fill.sh prints them over the translation 5e547d24f9459155… (all of the seat's roots in one cut). By AI agents, Wed Nov 11 2026. No macro, syntax, notation, axiom, sorry.
-/
import Derived.Test.YtapdglmldldnkaaChecked
import GoSem.Claim
import GoSem.ClaimJoined
import GoSem.ClaimMapViews
import Derived.JoinedTies
import Derived.KernelRfl
namespace Go.Proofs.Ytapdglmldldnkaa
/- THE CELL 'sum', in the pinned program and in every row, IS THE sha256 OF THE DUMP (.gsa) THAT YtapdglmldldnkaaProg.lean LOADS. Nothing in Lean hashes anything: it is a label: what it is worth is what the hold of that sum in a sandbox is worth. -/
noncomputable def Try.pinned : Pinned := { name := "ytapdglmldldnkaa", sum := "5e547d24f94591557053d7f33ea314dc26ba28dc816f8bd2153241b83d619dfb", checked := Try.checked }
namespace Rows
def none {H : Type} : Left H := { results := [], args := [] }

/-- 'corbellaw01.NumMakes': WHATEVER THE INPUT: true; the input reads as it did. -/
def numMakesSpec : ChangeSpec := { name := "numMakes", fn := fun _ => fun
  | [d1, d2] => { results := [.lit (.bool true)], args := [d1, d2] }
  | _ => none }
def numMakesRow : OpenClaim := { program := "ytapdglmldldnkaa", sum := "5e547d24f94591557053d7f33ea314dc26ba28dc816f8bd2153241b83d619dfb", func := "corbel/corbellaw01.NumMakes", spec := "numMakes", apart := false }
def NumMakesSaid : Prop := numMakesRow.holds Try.pinned (OpenSpec.ofChange numMakesSpec)

/-- ITS FALSE NEIGHBOUR: 'it returns false'. Refute it at one input. -/
def numMakesWrong : ChangeSpec := { name := "numMakes", fn := fun _ => fun
  | [d1, d2] => { results := [.lit (.bool false)], args := [d1, d2] }
  | _ => none }
def NumMakesWrongFalsely : Prop := numMakesRow.holds Try.pinned (OpenSpec.ofChange numMakesWrong)

/-- 'corbellaw01.NumRing': WHATEVER THE INPUT: true; the input reads as it did. -/
def numRingSpec : ChangeSpec := { name := "numRing", fn := fun _ => fun
  | [d] => { results := [.lit (.bool true)], args := [d] }
  | _ => none }
def numRingRow : OpenClaim := { program := "ytapdglmldldnkaa", sum := "5e547d24f94591557053d7f33ea314dc26ba28dc816f8bd2153241b83d619dfb", func := "corbel/corbellaw01.NumRing", spec := "numRing", apart := false }
def NumRingSaid : Prop := numRingRow.holds Try.pinned (OpenSpec.ofChange numRingSpec)

/-- ITS FALSE NEIGHBOUR: 'it returns false'. Refute it at one input. -/
def numRingWrong : ChangeSpec := { name := "numRing", fn := fun _ => fun
  | [d] => { results := [.lit (.bool false)], args := [d] }
  | _ => none }
def NumRingWrongFalsely : Prop := numRingRow.holds Try.pinned (OpenSpec.ofChange numRingWrong)

/-- 'corbellaw01.NumOrder': WHATEVER THE INPUT: true; the input reads as it did. -/
def numOrderSpec : ChangeSpec := { name := "numOrder", fn := fun _ => fun
  | [d] => { results := [.lit (.bool true)], args := [d] }
  | _ => none }
def numOrderRow : OpenClaim := { program := "ytapdglmldldnkaa", sum := "5e547d24f94591557053d7f33ea314dc26ba28dc816f8bd2153241b83d619dfb", func := "corbel/corbellaw01.NumOrder", spec := "numOrder", apart := false }
def NumOrderSaid : Prop := numOrderRow.holds Try.pinned (OpenSpec.ofChange numOrderSpec)

/-- ITS FALSE NEIGHBOUR: 'it returns false'. Refute it at one input. -/
def numOrderWrong : ChangeSpec := { name := "numOrder", fn := fun _ => fun
  | [d] => { results := [.lit (.bool false)], args := [d] }
  | _ => none }
def NumOrderWrongFalsely : Prop := numOrderRow.holds Try.pinned (OpenSpec.ofChange numOrderWrong)

/-- 'corbellaw01.NumInverse': WHATEVER THE INPUT: true; the input reads as it did. -/
def numInverseSpec : ChangeSpec := { name := "numInverse", fn := fun _ => fun
  | [d1, d2] => { results := [.lit (.bool true)], args := [d1, d2] }
  | _ => none }
def numInverseRow : OpenClaim := { program := "ytapdglmldldnkaa", sum := "5e547d24f94591557053d7f33ea314dc26ba28dc816f8bd2153241b83d619dfb", func := "corbel/corbellaw01.NumInverse", spec := "numInverse", apart := false }
def NumInverseSaid : Prop := numInverseRow.holds Try.pinned (OpenSpec.ofChange numInverseSpec)

/-- ITS FALSE NEIGHBOUR: 'it returns false'. Refute it at one input. -/
def numInverseWrong : ChangeSpec := { name := "numInverse", fn := fun _ => fun
  | [d1, d2] => { results := [.lit (.bool false)], args := [d1, d2] }
  | _ => none }
def NumInverseWrongFalsely : Prop := numInverseRow.holds Try.pinned (OpenSpec.ofChange numInverseWrong)

/-- 'corbellaw01.NumAdds': WHATEVER THE INPUT: true; the input reads as it did. -/
def numAddsSpec : ChangeSpec := { name := "numAdds", fn := fun _ => fun
  | [d1, d2, d3, d4] => { results := [.lit (.bool true)], args := [d1, d2, d3, d4] }
  | _ => none }
def numAddsRow : OpenClaim := { program := "ytapdglmldldnkaa", sum := "5e547d24f94591557053d7f33ea314dc26ba28dc816f8bd2153241b83d619dfb", func := "corbel/corbellaw01.NumAdds", spec := "numAdds", apart := false }
def NumAddsSaid : Prop := numAddsRow.holds Try.pinned (OpenSpec.ofChange numAddsSpec)

/-- ITS FALSE NEIGHBOUR: 'it returns false'. Refute it at one input. -/
def numAddsWrong : ChangeSpec := { name := "numAdds", fn := fun _ => fun
  | [d1, d2, d3, d4] => { results := [.lit (.bool false)], args := [d1, d2, d3, d4] }
  | _ => none }
def NumAddsWrongFalsely : Prop := numAddsRow.holds Try.pinned (OpenSpec.ofChange numAddsWrong)

/- THE SECOND FORM. 'bulk': how many values and letters a reading holds, each counted each time it is reached (what is shared counts as often as it is met; a slice's spare places count too). A statement '..UptoSaid' is the law's where the arguments, and the package variables that the reading takes, are together of bulk at most 1048576: NARROWER than '..Said'. Prove '..Said' where nothing that the law and all that it calls make is longer than what came in: it says more and counts as full. Else prove '..UptoSaid'. A law counts once. -/
mutual
def uptoBulk {H : Type} : DataW H → Nat
  | .lit (.string bytes) => bytes.length + 1
  | .lit _ => 1
  | .nil => 1
  | .ptr d => uptoBulk d + 1
  | .slice elems spare => uptoBulkAll elems + uptoBulkAll spare + 1
  | .agg parts => uptoBulkAll parts + 1
  | .iface _ d => uptoBulk d + 1
  | .map entries => uptoBulkEntries entries + 1
  | .held _ => 1
def uptoBulkAll {H : Type} : List (DataW H) → Nat
  | [] => 0
  | d :: r => uptoBulk d + uptoBulkAll r
def uptoBulkEntries {H : Type} : List (Lit × DataW H) → Nat
  | [] => 0
  | x :: r => uptoBulkEntry x + uptoBulkEntries r
def uptoBulkEntry {H : Type} : Lit × DataW H → Nat
  | (.string bytes, d) => bytes.length + uptoBulk d + 1
  | (_, d) => uptoBulk d + 1
 end
def uptoSmall : (H : Type) → List (DataW H) → Bool := fun _ ds => decide (uptoBulkAll ds ≤ 1048576)
def OpenSpec.upto (s : _root_.Go.ChangeSpec) : _root_.Go.OpenSpec := { _root_.Go.OpenSpec.ofChange s with cond := some uptoSmall }

/-- 'corbellaw01.NumMakes', WHERE WHAT IT READS IS OF BULK AT MOST 1048576: true; the input reads as it did. -/
def numMakesUptoRow : OpenClaim := { program := "ytapdglmldldnkaa", sum := "5e547d24f94591557053d7f33ea314dc26ba28dc816f8bd2153241b83d619dfb", func := "corbel/corbellaw01.NumMakes", spec := "numMakes", apart := false, narrowed := true }
def NumMakesUptoSaid : Prop := numMakesUptoRow.holds Try.pinned (OpenSpec.upto numMakesSpec)

/-- 'corbellaw01.NumRing', WHERE WHAT IT READS IS OF BULK AT MOST 1048576: true; the input reads as it did. -/
def numRingUptoRow : OpenClaim := { program := "ytapdglmldldnkaa", sum := "5e547d24f94591557053d7f33ea314dc26ba28dc816f8bd2153241b83d619dfb", func := "corbel/corbellaw01.NumRing", spec := "numRing", apart := false, narrowed := true }
def NumRingUptoSaid : Prop := numRingUptoRow.holds Try.pinned (OpenSpec.upto numRingSpec)

/-- 'corbellaw01.NumOrder', WHERE WHAT IT READS IS OF BULK AT MOST 1048576: true; the input reads as it did. -/
def numOrderUptoRow : OpenClaim := { program := "ytapdglmldldnkaa", sum := "5e547d24f94591557053d7f33ea314dc26ba28dc816f8bd2153241b83d619dfb", func := "corbel/corbellaw01.NumOrder", spec := "numOrder", apart := false, narrowed := true }
def NumOrderUptoSaid : Prop := numOrderUptoRow.holds Try.pinned (OpenSpec.upto numOrderSpec)

/-- 'corbellaw01.NumInverse', WHERE WHAT IT READS IS OF BULK AT MOST 1048576: true; the input reads as it did. -/
def numInverseUptoRow : OpenClaim := { program := "ytapdglmldldnkaa", sum := "5e547d24f94591557053d7f33ea314dc26ba28dc816f8bd2153241b83d619dfb", func := "corbel/corbellaw01.NumInverse", spec := "numInverse", apart := false, narrowed := true }
def NumInverseUptoSaid : Prop := numInverseUptoRow.holds Try.pinned (OpenSpec.upto numInverseSpec)

/-- 'corbellaw01.NumAdds', WHERE WHAT IT READS IS OF BULK AT MOST 1048576: true; the input reads as it did. -/
def numAddsUptoRow : OpenClaim := { program := "ytapdglmldldnkaa", sum := "5e547d24f94591557053d7f33ea314dc26ba28dc816f8bd2153241b83d619dfb", func := "corbel/corbellaw01.NumAdds", spec := "numAdds", apart := false, narrowed := true }
def NumAddsUptoSaid : Prop := numAddsUptoRow.holds Try.pinned (OpenSpec.upto numAddsSpec)

end Rows
end Go.Proofs.Ytapdglmldldnkaa
