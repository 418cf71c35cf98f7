/-
  What the proofs lean on: RBind, MkT.
-/
import Derived.WalkSpells
import Derived.Deep.LoopGhost
import Derived.Deep.DeepCutAuto
import Derived.BigQuiet
import Derived.Test.YtigkhmppnnljiaaGreatDoorShiftA08
import Derived.Test.YtigkhmppnnljiaaGreatDoorShiftA09
import Derived.Test.YtigkhmppnnljiaaGreatDoorShiftA15
import Derived.Test.YtigkhmppnnljiaaGreatDoorShiftA17
import Derived.Test.YtigkhmppnnljiaaGreatDoorShiftA19
import Derived.Test.YtigkhmppnnljiaaGreatDoorShiftA25
import Derived.Test.YtigkhmppnnljiaaGreatDoorShiftA29
import Derived.Test.YtigkhmppnnljiaaGreatDoorShiftA31
import Derived.Test.YtigkhmppnnljiaaGreatDoorShiftA35
namespace Go.Proofs.YtigkhmppnnljiaaGreatDoor
open Go Go.RowKit

theorem bs_int (w : World) (x : Int) : (Instr.buildSlice 32 1 #[(0, .int .i64 x)]).run Tryz.prog w = .ok (.slice (some ⟨w.heap.size, 0, none⟩) 1 1) (w.alloc (.cells #[.int .i64 x] 3)) := by go_simp
end Go.Proofs.YtigkhmppnnljiaaGreatDoor

namespace Go.Proofs.YtigkhmppnnljiaaGreatDoor
open Go Go.RowKit

/-- flat.Make, of few terms. -/
theorem fmake_to (m : Mdl) (v : Value) (B : Nat) (w : World) (hv : MdlR w B m v) (hB : B ≤ w.heap.size) (n : Int) (hn : n ≤ 390) (hf : m.fewB n = true) :
    Calls Tryz.prog 15 #[v] w fun e w' => ∃ c p, e = .returned (.tuple #[.agg #[c, p], .int .i64 (m.makeErr Mk.lkL)]) ∧ UntR w' w'.heap.size (m.makeU Mk.lkL) (.agg #[c, p]) ∧ Below w.heap.size w w' := by
  obtain ⟨h1, h2, h3, h4, h5, h6⟩ := Mdl.few_facts hf
  refine fmake_any m v B w hv hB ⟨by omega, by omega⟩ (fun c hc => ?_) fun w' hb => check_any m v B w' (hv.kept (hb.mono hB)) (by have := hb.size; omega) (by unfold Mdl.all; omega) ⟨by omega, fun c hc => by have := h5 c hc; omega⟩ (by omega) _ rfl
  rcases List.mem_append.1 hc with hc | hc
  · have := h5 c hc
    omega
  · rw [List.mem_singleton.1 hc]
    dsimp only
    omega
end Go.Proofs.YtigkhmppnnljiaaGreatDoor
