/-
  Data (chapter 2) as plain Lean: what Right, Size, Text, Same, List, Items compute; no program in sight.
-/
import Derived.Test.YtlpkpkcfgchngaaDoorTextLaw
namespace Go.Proofs.YtlpkpkcfgchngaaDoor

/-- A datum: its kind, its number, its text, its parts. -/
inductive Dat where
  | mk (kind n d : Int) (s : ByteArray) (l : List Dat)

namespace Dat
open Go
def kind : Dat → Int | mk k _ _ _ _ => k
def n : Dat → Int | mk _ n _ _ _ => n
def d : Dat → Int | mk _ _ d _ _ => d
def s : Dat → ByteArray | mk _ _ _ s _ => s
def l : Dat → List Dat | mk _ _ _ _ l => l

/-- The bytes of names. -/
def marks : List UInt8 := [97, 98, 99, 100, 101, 102, 103, 104, 105, 106, 107, 108, 109, 110, 111, 112, 113, 114, 115, 116, 117, 118, 119, 120, 121, 122, 48, 49, 50, 51, 52, 53, 54, 55, 56, 57, 45, 43, 42, 47, 60, 62, 61, 33, 63, 95, 37]
def nameByte (b : UInt8) : Bool := marks.contains b
/-- Name. -/
def name (l : List UInt8) : Bool := decide (1 ≤ l.length) && (decide (l.length ≤ 40) && (l.all nameByte && !(Num.parse l).2.2))
/-- A byte of a string. -/
def strByte (b : UInt8) : Bool := decide (32 ≤ b.toNat) && (decide (b.toNat ≤ 126) && (decide (b.toNat ≠ 34) && decide (b.toNat ≠ 92)))

/-- Is a datum as its kind says, its parts aside? -/
def head (k n d : Int) (s : List UInt8) (len : Nat) : Bool :=
  if k = 0 then Num.right n d && (s.isEmpty && decide (len = 0))
  else if k = 1 then decide (d = 0) && (decide (n = 0 ∨ n = 1) && (s.isEmpty && decide (len = 0)))
  else if k = 2 then decide (d = 0) && (decide (n = 0) && (name s && decide (len = 0)))
  else if k = 3 then decide (d = 0) && (decide (n = 0) && (s.all strByte && decide (len = 0)))
  else if k = 4 ∨ k = 5 then decide (d = 0) && (decide (n = 0) && (s.isEmpty && decide (len = 0)))
  else if k = 6 then decide (d = 0) && (decide (n = 0) && (s.isEmpty && decide (len = 2)))
  else if k = 7 then decide (d = 0) && (decide (n = 0) && s.isEmpty)
  else false

mutual
/-- Right, at a depth. -/
def right : Dat → Nat → Bool
  | mk k n d s l, deep => decide (deep ≤ 200) && (head k n d s.data.toList l.length && rightL l (deep + 1))
def rightL : List Dat → Nat → Bool
  | [], _ => true
  | x :: l, deep => right x deep && rightL l deep
end

mutual
/-- corbelref02.few: how many of so many are left. -/
def few : Dat → Int → Int
  | mk _ _ _ _ l, left => fewL l (left - 1)
def fewL : List Dat → Int → Int
  | [], left => left
  | x :: l, left => if 0 ≤ left then fewL l (few x left) else left
end

mutual
/-- corbelref02.size: at a depth. -/
def size : Dat → Nat → Nat
  | mk _ _ _ _ l, deep => 1 + (if deep < 1000 then sizeL l (deep + 1) else 0)
def sizeL : List Dat → Nat → Nat
  | [], _ => 0
  | x :: l, deep => size x deep + sizeL l deep
end

mutual
/-- How many data there are, at whatever depth. -/
def all : Dat → Nat
  | mk _ _ _ _ l => 1 + allL l
def allL : List Dat → Nat
  | [] => 0
  | x :: l => all x + allL l
end

mutual
/-- corbelref02.Alike. -/
def alike : Dat → Dat → Bool
  | mk k n d s l, mk k' n' d' s' l' => (decide (k = k') && (decide (n = n') && (decide (d = d') && decide (s = s')))) && alikeL l l'
def alikeL : List Dat → List Dat → Bool
  | [], [] => true
  | x :: l, y :: l' => alike x y && alikeL l l'
  | _, _ => false
end

mutual
/-- A datum's text; behind a Pair's first part (tail): the rest of a list. -/
def text : Dat → Bool → List UInt8
  | mk k n d s l, tail =>
    if k = 6 then (if tail then 32 :: textP l else 40 :: (textP l ++ [41]))
    else if tail then (if k = 4 then [] else [32, 46, 32] ++ textA k n d s l) else textA k n d s l
/-- .. of a datum that is no Pair. -/
def textA (k n d : Int) (s : ByteArray) (l : List Dat) : List UInt8 :=
  if k = 0 then Num.text n d
  else if k = 1 then (if n = 1 then [35, 116] else [35, 102])
  else if k = 2 then s.data.toList
  else if k = 3 then 34 :: (s.data.toList ++ [34])
  else if k = 4 then [40, 41]
  else if k = 5 then [35, 118]
  else [35, 40] ++ (textV l true ++ [41])
/-- .. of a Pair's parts. -/
def textP : List Dat → List UInt8
  | [a, b] => text a false ++ text b true
  | _ => []
/-- .. of a Vec's parts. -/
def textV : List Dat → Bool → List UInt8
  | [], _ => []
  | x :: l, first => (if first then [] else [32]) ++ (text x false ++ textV l false)
end

def null : Dat := mk 4 0 0 ⟨#[]⟩ []
def pair (a b : Dat) : Dat := mk 6 0 0 ⟨#[]⟩ [a, b]
/-- List. -/
def list : List Dat → Dat
  | [] => null
  | x :: l => pair x (list l)

/-- The parts of Pairs, one behind another, to a Null. -/
def items : Dat → Option (List Dat)
  | mk k _ _ _ [a, b] => if k = 6 then (items b).map (a :: ·) else none
  | mk k _ _ _ _ => if k = 4 then some [] else none

end Dat
end Go.Proofs.YtlpkpkcfgchngaaDoor
