/-
  What a primitive makes of data (chapter 5), in plain Lean.
-/
import Derived.Test.YtnpiekniignfcaaGreatDoorPrimLaw
namespace Go.Proofs.YtnpiekniignfcaaGreatDoor
open Go
namespace Prims
def num (n d : Int) : Dat := .mk 0 n d ⟨#[]⟩ []
def zeroD : Dat := num 0 0
def truth (b : Bool) : Dat := .mk 1 (if b then 1 else 0) 0 ⟨#[]⟩ []
def voidD : Dat := .mk 5 0 0 ⟨#[]⟩ []
/-- One sum, difference, product, quotient. -/
def step (n a b c d : Int) : Int × Int × Int := if n = 0 then Num.add a b c d else if n = 1 then Num.sub a b c d else if n = 2 then Num.mul a b c d else Num.div a b c d
def sumsL (n : Int) : List Dat → Int → Int → Dat × Int
  | [], a, b => (num a b, 0)
  | x :: l, a, b => if (step n a b x.n x.d).2.2 = 0 then sumsL n l (step n a b x.n x.d).1 (step n a b x.n x.d).2.1 else (zeroD, (step n a b x.n x.d).2.2)
def sumsR (n : Int) (l : List Dat) : Dat × Int :=
  if (n = 1 ∨ n = 3) ∧ 1 < l.length then sumsL n l.tail (l.headD zeroD).n (l.headD zeroD).d else sumsL n l (n / 2) 1
def sums (n : Int) (l : List Dat) : Dat × Int := if l.any (fun x => decide (x.kind ≠ 0)) = true then (zeroD, 1) else sumsR n l
/-- eq? -/
def eq (a b : Dat) : Bool := decide (a.kind ≠ 3 ∧ a.kind ≠ 6 ∧ a.kind ≠ 7) && Dat.alike a b
mutual
/-- equal?, with how many may still be held against another. -/
def eqc : Dat → Dat → Int → Bool × Int
  | .mk k n d s l, .mk k' n' d' s' l', left =>
    if left ≤ 0 ∨ ¬ (k = k' ∧ n = n' ∧ d = d' ∧ s = s' ∧ l.length = l'.length) then (false, left - 1) else eqcL l l' (left - 1)
def eqcL : List Dat → List Dat → Int → Bool × Int
  | x :: l, y :: l', left => if (eqc x y left).1 = true then eqcL l l' (eqc x y left).2 else (false, (eqc x y left).2)
  | _, _, left => (true, left)
end
def equal (a b : Dat) : Dat × Int := if (eqc a b 1000).2 < 0 then (zeroD, 3) else (truth (eqc a b 1000).1, 0)
def at' (v k : Dat) : Dat × Int :=
  if v.kind ≠ 7 ∨ k.kind ≠ 0 then (zeroD, 1) else if k.d ≠ 1 ∨ k.n < 0 ∨ (v.l.length : Int) ≤ k.n then (zeroD, 3) else (v.l.getD k.n.toNat zeroD, 0)
def kinds : List Int := [4, 6, 0, 2, 1, 3, 7, -1]
def does (n : Int) (l : List Dat) : Dat × Int :=
  if n < 4 then sums n l
  else if n = 25 then (voidD, 0)
  else if n = 4 ∨ n = 5 then (if (l.headD zeroD).kind ≠ 0 ∨ (l.tail.headD zeroD).kind ≠ 0 then (zeroD, 1) else if n = 4 then (truth (Dat.alike (l.headD zeroD) (l.tail.headD zeroD)), 0) else (truth (Num.less (l.headD zeroD).n (l.headD zeroD).d (l.tail.headD zeroD).n (l.tail.headD zeroD).d), 0))
  else if n = 6 then (truth (eq (l.headD zeroD) (l.tail.headD zeroD)), 0)
  else if n = 7 then equal (l.headD zeroD) (l.tail.headD zeroD)
  else if n = 8 then (truth (decide ((l.headD zeroD).kind = 1 ∧ (l.headD zeroD).n = 0)), 0)
  else if n = 18 ∨ n = 19 then (if (l.headD zeroD).kind ≠ 6 then (zeroD, 1) else ((l.headD zeroD).l.getD (n - 18).toNat zeroD, 0))
  else if n = 22 then at' (l.headD zeroD) (l.tail.headD zeroD)
  else if n = 23 then (if (l.headD zeroD).kind ≠ 7 then (zeroD, 1) else (num (l.headD zeroD).l.length 1, 0))
  else if n = 24 then (match Dat.items (l.headD zeroD) with | none => (zeroD, 1) | some k => (num k.length 1, 0))
  else (truth (decide ((l.headD zeroD).kind = kinds.getD (n - 9).toNat (-1))), 0)
/-- Fold. -/
def fold (n : Int) (l : List Dat) : Dat × Int × Bool :=
  if (has n && ((facts n).folds && l.all (fun x => Dat.right x 0))) = true then (if takes n l.length = true then ((does n l).1, (does n l).2, true) else (zeroD, 2, true)) else (zeroD, 0, false)
end Prims
end Go.Proofs.YtnpiekniignfcaaGreatDoor
