/-
  The contracts of strings.Builder's WriteString (its copy check walked at this dump) and String.
-/
import Derived.Test.YtdlhocghiaghfaaGreatDoorEnv
import Derived.Lib.FrozenHead
import Derived.Lib.FrozenHead2
import Derived.Lib.OthersKept
import Derived.Laws.Externs
import Derived.Test.YtdlhocghiaghfaaGreatDoorListUp
import Derived.Test.YtdlhocghiaghfaaGreatDoorParses
namespace Go.Proofs.YtdlhocghiaghfaaGreatDoor
open Go.RowKit

theorem info_byte : (Tryz.prog.info? 5).map (fun i => (i.zero, i.size, i.bytes)) = some (some (.int .u8 0), 1, 1) := by kernel_rfl
/-- Nothing else has turned. -/
def BKeep (B b : Nat) (w w' : World) : Prop := Below B w w' ∧ Lib.OthersKept 5 (some b) w w'

theorem BKeep.refl (B b : Nat) (w : World) : BKeep B b w w := ⟨Below.refl _ _, Lib.OthersKept.refl _ _ _⟩
theorem BKeep.trans {B b : Nat} {w1 w2 w3 : World} (h : BKeep B b w1 w2) (k : BKeep B b w2 w3) : BKeep B b w1 w3 := ⟨h.1.trans k.1, h.2.trans k.2⟩
theorem BKeep.of_below {B b : Nat} {w1 w2 : World} (hB : B ≤ w1.heap.size) (h : Below w1.heap.size w1 w2) : BKeep B b w1 w2 :=
  ⟨h.mono hB, fun k _o hk _ _ => (h.block k (Array.getElem?_eq_some_iff.1 hk).1).trans hk⟩
theorem BKeep.size {B b : Nat} {w1 w2 : World} (h : BKeep B b w1 w2) : w1.heap.size ≤ w2.heap.size := h.1.size

theorem grown_of_below {w w' : World} (h : Below w.heap.size w w') : w.grownBy w' none := ⟨h.os, h.tape, h.output, h.size, fun k hk _ => h.block k hk⟩

theorem byteCells_append (l : List UInt8) (s : ByteArray) : Lib.byteCells l ++ Lib.strCells s = Lib.byteCells (l ++ s.data.toList) := by
  unfold Lib.byteCells Lib.strCells
  simp
theorem byteCells_length (l : List UInt8) : (Lib.byteCells l).length = l.length := by unfold Lib.byteCells; simp

/-- A block that is no row of bytes and not the builder's stays. -/
theorem BKeep.block {B b k : Nat} {w w' : World} {cs : Array Value} {t : TypeId} {fz : Nat × Nat} (h : BKeep B b w w') (hk : w.heap[k]? = some (.cells cs t fz)) (hb : k ≠ b) (ht : t ≠ 5) : w'.heap[k]? = some (.cells cs t fz) :=
  h.2 k _ hk (by simpa using hb) (fun c f e => by cases e; exact ht rfl)
end Go.Proofs.YtdlhocghiaghfaaGreatDoor

namespace Go.Proofs.YtdlhocghiaghfaaGreatDoor
open Go.RowKit

/-- The library's table lies in the world, below a block. -/
def EnvAt (B : Nat) (w : World) : Prop := Env w ∧ 5 < B
theorem EnvAt.of {w : World} (h : Env w) : EnvAt w.heap.size w := by
  refine ⟨h, ?_⟩
  have hg : Tryz.prog.globalNamed "internal/strconv.uint64pow10" = some 5 := by kernel_rfl
  exact var_lt hg h
theorem EnvAt.kept {B : Nat} {w w' : World} (h : EnvAt B w) (hb : Below B w w') : EnvAt B w' := by
  refine ⟨?_, h.2⟩
  have h1 := h.1
  have hg : Tryz.prog.globalNamed "internal/strconv.uint64pow10" = some 5 := by kernel_rfl
  unfold Env Lib.TabIs World.var? at h1 ⊢
  rw [hg] at h1 ⊢
  simp only [Option.bind_some] at h1 ⊢
  rw [hb.block _ h.2]
  exact h1

theorem Box5.bkeep {B b k : Nat} {w w' : World} {c0 c1 c2 c3 c4 : Value} (h : BKeep B b w w') (hk : Box5 w k 66 c0 c1 c2 c3 c4) (hb : k ≠ b) : Box5 w' k 66 c0 c1 c2 c3 c4 := h.block hk hb (by decide)

theorem bkeep_alloc {B b : Nat} {w : World} (hB : B ≤ w.heap.size) (o : Obj) : BKeep B b w (w.alloc o) := BKeep.of_below hB ((Below.refl _ _).alloc (Nat.le_refl _) _)
section
variable (B b : Nat) (l0 : List UInt8) (n d : Int) (s : ByteArray) (o : Option Addr) (len cap : Nat) (w : World)

end
end Go.Proofs.YtdlhocghiaghfaaGreatDoor

namespace Go.Proofs.YtdlhocghiaghfaaGreatDoor
open Go.RowKit

theorem textV_snoc : ∀ (l : List Dat) (x : Dat) (first : Bool), Dat.textV (l ++ [x]) first = Dat.textV l first ++ ((if first && l.isEmpty then [] else [32]) ++ Dat.text x false)
  | [], x, first => by cases first <;> simp [Dat.textV]
  | y :: l, x, first => by
    rw [List.cons_append, Dat.textV, textV_snoc l x false, Dat.textV]
    simp

theorem textV_step {l : List Dat} {j : Nat} {x : Dat} (h : l[j]? = some x) : Dat.textV (l.take (j + 1)) true = Dat.textV (l.take j) true ++ ((if j = 0 then [] else [32]) ++ Dat.text x false) := by
  have hj := (List.getElem?_eq_some_iff.1 h).1
  rw [List.take_add_one, h]
  show Dat.textV (l.take j ++ [x]) true = _
  rw [textV_snoc]
  congr 2
  by_cases h0 : j = 0
  · subst h0; simp
  · have : (l.take j).isEmpty = false := by
      rw [List.isEmpty_eq_false_iff]; intro h1
      have := congrArg List.length h1
      rw [List.length_take, List.length_nil] at this; omega
    simp [this, h0]

theorem textV_append_le : ∀ (a c : List Dat) (first : Bool), (Dat.textV a first).length ≤ (Dat.textV (a ++ c) first).length
  | [], c, first => by simp [Dat.textV]
  | y :: a, c, first => by
    have := textV_append_le a c false
    rw [List.cons_append, Dat.textV, Dat.textV]
    simp only [List.length_append]; omega

theorem textV_take_le (l : List Dat) (j : Nat) : (Dat.textV (l.take j) true).length ≤ (Dat.textV l true).length := by
  have := textV_append_le (l.take j) (l.drop j) true
  rwa [List.take_append_drop] at this

end Go.Proofs.YtdlhocghiaghfaaGreatDoor
