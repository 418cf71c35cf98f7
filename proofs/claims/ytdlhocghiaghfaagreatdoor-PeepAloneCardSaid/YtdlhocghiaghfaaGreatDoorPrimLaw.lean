/-
  What is known of the primitives (chapter 5), in plain Lean.
-/
import Derived.Test.YtdlhocghiaghfaaGreatDoorPlain
namespace Go.Proofs.YtdlhocghiaghfaaGreatDoor
open Go

/-- What is known of a primitive. -/
structure Fact where
  name : ByteArray
  least : Int
  most : Int
  pure : Bool
  folds : Bool

namespace Prims
def noFact : Fact := ⟨⟨#[]⟩, 0, 0, false, false⟩
def table : List Fact := [
  ⟨⟨#[43]⟩, 0, -1, true, true⟩,
  ⟨⟨#[45]⟩, 1, -1, true, true⟩,
  ⟨⟨#[42]⟩, 0, -1, true, true⟩,
  ⟨⟨#[47]⟩, 1, -1, true, true⟩,
  ⟨⟨#[61]⟩, 2, 2, true, true⟩,
  ⟨⟨#[60]⟩, 2, 2, true, true⟩,
  ⟨⟨#[101, 113, 63]⟩, 2, 2, true, true⟩,
  ⟨⟨#[101, 113, 117, 97, 108, 63]⟩, 2, 2, true, true⟩,
  ⟨⟨#[110, 111, 116]⟩, 1, 1, true, true⟩,
  ⟨⟨#[110, 117, 108, 108, 63]⟩, 1, 1, true, true⟩,
  ⟨⟨#[112, 97, 105, 114, 63]⟩, 1, 1, true, true⟩,
  ⟨⟨#[110, 117, 109, 98, 101, 114, 63]⟩, 1, 1, true, true⟩,
  ⟨⟨#[115, 121, 109, 98, 111, 108, 63]⟩, 1, 1, true, true⟩,
  ⟨⟨#[98, 111, 111, 108, 101, 97, 110, 63]⟩, 1, 1, true, true⟩,
  ⟨⟨#[115, 116, 114, 105, 110, 103, 63]⟩, 1, 1, true, true⟩,
  ⟨⟨#[118, 101, 99, 116, 111, 114, 63]⟩, 1, 1, true, true⟩,
  ⟨⟨#[112, 114, 111, 99, 101, 100, 117, 114, 101, 63]⟩, 1, 1, true, true⟩,
  ⟨⟨#[99, 111, 110, 115]⟩, 2, 2, true, false⟩,
  ⟨⟨#[99, 97, 114]⟩, 1, 1, true, true⟩,
  ⟨⟨#[99, 100, 114]⟩, 1, 1, true, true⟩,
  ⟨⟨#[108, 105, 115, 116]⟩, 0, -1, true, false⟩,
  ⟨⟨#[118, 101, 99, 116, 111, 114]⟩, 0, -1, true, false⟩,
  ⟨⟨#[118, 101, 99, 116, 111, 114, 45, 114, 101, 102]⟩, 2, 2, true, true⟩,
  ⟨⟨#[118, 101, 99, 116, 111, 114, 45, 108, 101, 110, 103, 116, 104]⟩, 1, 1, true, true⟩,
  ⟨⟨#[108, 101, 110, 103, 116, 104]⟩, 1, 1, true, true⟩,
  ⟨⟨#[118, 111, 105, 100]⟩, 0, 0, true, true⟩,
  ⟨⟨#[100, 105, 115, 112, 108, 97, 121]⟩, 1, 1, false, false⟩,
  ⟨⟨#[110, 101, 119, 108, 105, 110, 101]⟩, 0, 0, false, false⟩,
  ⟨⟨#[114, 97, 105, 115, 101]⟩, 1, 1, false, false⟩,
  ⟨⟨#[99, 97, 108, 108, 47, 99, 99]⟩, 1, 1, false, false⟩,
  ⟨⟨#[97, 112, 112, 108, 121]⟩, 2, 2, false, false⟩]
def facts (n : Int) : Fact := if 0 ≤ n ∧ n ≤ 30 then table.getD n.toNat noFact else noFact
def has (n : Int) : Bool := decide (0 ≤ n ∧ n ≤ 30)
def takes (n k : Int) : Bool := has n && (decide ((facts n).least ≤ k) && (decide ((facts n).most < 0) || decide (k ≤ (facts n).most)))
/-- The first of a name, from one on. -/
def findFrom (s : ByteArray) : List Fact → Nat → Int × Bool
  | [], _ => (0, false)
  | f :: l, i => if f.name = s then (i, true) else findFrom s l (i + 1)
def find (s : ByteArray) : Int × Bool := if s = ⟨#[37, 101, 113, 63]⟩ then (6, true) else findFrom s table 0
end Prims
end Go.Proofs.YtdlhocghiaghfaaGreatDoor
