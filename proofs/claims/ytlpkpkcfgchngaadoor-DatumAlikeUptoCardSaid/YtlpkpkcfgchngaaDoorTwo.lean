/-
  Two boxes of a function whose result lies in a cell, and the class of worlds that left them alone.
-/
import Derived.Test.YtlpkpkcfgchngaaDoorFew
import Derived.Test.YtlpkpkcfgchngaaDoorQuietTail
namespace Go.Proofs.YtlpkpkcfgchngaaDoor
open Go.RowKit

/-- A cell of the block below the newest. -/
theorem box_below (w : World) (cs : Array Value) (t : TypeId) (B : Obj) (i : Nat) {v : Value} (h : cs[i]? = some v) : ((w.alloc (.cells cs t)).alloc B).cell? ⟨w.heap.size, i, none⟩ = some v := by
  rw [below_cells ((Below.refl (w.alloc (.cells cs t)).heap.size (w.alloc (.cells cs t))).alloc (Nat.le_refl _) B) w.heap.size i (by simp)]
  exact box_cell w cs t i h

/-- The two boxes of a function whose result lies in a cell: the class of the worlds that left them alone. -/
def Two (w : World) (cs : Array Value) (t : TypeId) (ds : Array Value) (w' : World) : Prop := Below (w.heap.size + 2) ((w.alloc (.cells cs t)).alloc (.cells ds t)) w'
theorem Two.cell {w w' : World} {cs ds : Array Value} {t : TypeId} (h : Two w cs t ds w') (i : Nat) {v : Value} (hv : cs[i]? = some v) : w'.cell? ⟨w.heap.size, i, none⟩ = some v := by
  rw [Below.cell h (p := ⟨w.heap.size, i, none⟩) (by simp)]
  exact box_below w cs t _ i hv
theorem Two.block {w w' : World} {cs ds : Array Value} {t : TypeId} (h : Two w cs t ds w') : w'.heap[w.heap.size + 1]? = some (.cells ds t) := by
  rw [Below.block h _ (by omega)]
  have h1 := (MapKept.heap_alloc (w.alloc (.cells cs t)) (.cells ds t)).1
  rwa [show (w.alloc (.cells cs t)).heap.size = w.heap.size + 1 by simp] at h1
theorem Two.next {w w' w'' : World} {cs ds : Array Value} {t : TypeId} (h : Two w cs t ds w') (h' : Below w'.heap.size w' w'') : Two w cs t ds w'' :=
  Below.trans h (h'.mono (by have := Below.size h; simp at this; omega))
theorem Two.drew {w : World} {cs ds : Array Value} {t : TypeId} : Two w cs t ds ((w.alloc (.cells cs t)).alloc (.cells ds t)).drew := (Below.refl _ _).drew
theorem Two.size {w w' : World} {cs ds : Array Value} {t : TypeId} (h : Two w cs t ds w') : w.heap.size + 2 ≤ w'.heap.size := by
  have := Below.size h; simpa using this

theorem Two.cell2 {w w' : World} {cs ds : Array Value} {t : TypeId} (h : Two w cs t ds w') (i : Nat) {v : Value} (hv : ds[i]? = some v) : w'.cell? ⟨w.heap.size + 1, i, none⟩ = some v := by
  rw [Below.cell h (p := ⟨w.heap.size + 1, i, none⟩) (by simp)]
  have := box_cell (w.alloc (.cells cs t)) ds t i hv
  rwa [show (w.alloc (.cells cs t)).heap.size = w.heap.size + 1 by simp] at this
theorem Two.free2 {w w' : World} {cs ds : Array Value} {t : TypeId} (h : Two w cs t ds w') (i : Nat) : w'.frozen? ⟨w.heap.size + 1, i, none⟩ = false := by
  rw [Below.frozen h (p := ⟨w.heap.size + 1, i, none⟩) (by simp)]
  exact World.frozen?_alloc_at (w := w.alloc (.cells cs t)) ds t _ i (by simp)
/-- A result's five cells. -/
theorem Two.five {w w' : World} {cs : Array Value} {t : TypeId} {d0 d1 d2 d3 d4 : Value} (h : Two w cs t #[d0, d1, d2, d3, d4] w') :
    w'.cell? ⟨w.heap.size + 1, 0, none⟩ = some d0 ∧ w'.cell? ⟨w.heap.size + 1, 1, none⟩ = some d1 ∧ w'.cell? ⟨w.heap.size + 1, 2, none⟩ = some d2 ∧ w'.cell? ⟨w.heap.size + 1, 3, none⟩ = some d3 ∧ w'.cell? ⟨w.heap.size + 1, 4, none⟩ = some d4 ∧
      w'.frozen? ⟨w.heap.size + 1, 0, none⟩ = false ∧ w'.frozen? ⟨w.heap.size + 1, 1, none⟩ = false ∧ w'.frozen? ⟨w.heap.size + 1, 2, none⟩ = false ∧ w'.frozen? ⟨w.heap.size + 1, 3, none⟩ = false ∧ w'.frozen? ⟨w.heap.size + 1, 4, none⟩ = false :=
  ⟨h.cell2 0 rfl, h.cell2 1 rfl, h.cell2 2 rfl, h.cell2 3 rfl, h.cell2 4 rfl, h.free2 0, h.free2 1, h.free2 2, h.free2 3, h.free2 4⟩
/-- .. written, nothing that was is turned. -/
theorem Two.stored {w w' : World} {cs ds : Array Value} {t : TypeId} (h : Two w cs t ds w') (v0 v1 v2 v3 v4 : Value) :
    Below w.heap.size w (((((w'.setCell ⟨w.heap.size + 1, 0, none⟩ v0).setCell ⟨w.heap.size + 1, 1, none⟩ v1).setCell ⟨w.heap.size + 1, 2, none⟩ v2).setCell ⟨w.heap.size + 1, 3, none⟩ v3).setCell ⟨w.heap.size + 1, 4, none⟩ v4) :=
  ((((((((Below.refl w.heap.size w).alloc (Nat.le_refl _) _).alloc (by simp) _).trans (Below.mono h (by omega))).setCell (by simp) _).setCell (by simp) _).setCell (by simp) _).setCell (by simp) _).setCell (by simp) _

/-- Behind two new blocks and a call that left them alone. -/
theorem two_cell1 {w w1 : World} {cs ds : Array Value} {t u : TypeId} (hb : Below ((w.alloc (.cells cs t)).alloc (.cells ds u)).heap.size ((w.alloc (.cells cs t)).alloc (.cells ds u)) w1) (i : Nat) {v : Value} (h : cs[i]? = some v) : w1.cell? ⟨w.heap.size, i, none⟩ = some v := by
  rw [Below.cell hb (p := ⟨w.heap.size, i, none⟩) (by simp; omega)]
  exact box_below w cs t _ i h
theorem two_cell2 {w w1 : World} {cs ds : Array Value} {t u : TypeId} (hb : Below ((w.alloc (.cells cs t)).alloc (.cells ds u)).heap.size ((w.alloc (.cells cs t)).alloc (.cells ds u)) w1) (i : Nat) {v : Value} (h : ds[i]? = some v) : w1.cell? ⟨w.heap.size + 1, i, none⟩ = some v := by
  rw [Below.cell hb (p := ⟨w.heap.size + 1, i, none⟩) (by simp)]
  have := box_cell (w.alloc (.cells cs t)) ds u i h
  rwa [show (w.alloc (.cells cs t)).heap.size = w.heap.size + 1 by simp] at this
theorem two_below {w w1 : World} {A B : Obj} (hb : Below ((w.alloc A).alloc B).heap.size ((w.alloc A).alloc B) w1) : Below w.heap.size w w1 :=
  (((Below.refl w.heap.size w).alloc (Nat.le_refl _) A).alloc (by simp) B).trans (hb.mono (by simp; omega))
theorem two_size {w w1 : World} {A B : Obj} (hb : Below ((w.alloc A).alloc B).heap.size ((w.alloc A).alloc B) w1) : w.heap.size + 2 ≤ w1.heap.size := by
  have := hb.size; simpa using this
/-- .. behind one. -/
theorem one_cell {w w1 : World} {cs : Array Value} {t : TypeId} (hb : Below (w.alloc (.cells cs t)).heap.size (w.alloc (.cells cs t)) w1) (i : Nat) {v : Value} (h : cs[i]? = some v) : w1.cell? ⟨w.heap.size, i, none⟩ = some v := by
  rw [Below.cell hb (p := ⟨w.heap.size, i, none⟩) (by simp)]
  exact box_cell w cs t i h
theorem one_below {w w1 : World} {A : Obj} (hb : Below (w.alloc A).heap.size (w.alloc A) w1) : Below w.heap.size w w1 :=
  ((Below.refl w.heap.size w).alloc (Nat.le_refl _) A).trans (hb.mono (by simp))
theorem one_size {w w1 : World} {A : Obj} (hb : Below (w.alloc A).heap.size (w.alloc A) w1) : w.heap.size + 1 ≤ w1.heap.size := by
  have := hb.size; simpa using this

theorem two_five {w w1 : World} {a0 a1 a2 a3 a4 : Value} {t u : TypeId} {ds : Array Value} (hb : Below ((w.alloc (.cells #[a0, a1, a2, a3, a4] t)).alloc (.cells ds u)).heap.size ((w.alloc (.cells #[a0, a1, a2, a3, a4] t)).alloc (.cells ds u)) w1) :
    w1.cell? ⟨w.heap.size, 0, none⟩ = some a0 ∧ w1.cell? ⟨w.heap.size, 1, none⟩ = some a1 ∧ w1.cell? ⟨w.heap.size, 2, none⟩ = some a2 ∧ w1.cell? ⟨w.heap.size, 3, none⟩ = some a3 ∧ w1.cell? ⟨w.heap.size, 4, none⟩ = some a4 :=
  ⟨two_cell1 hb 0 rfl, two_cell1 hb 1 rfl, two_cell1 hb 2 rfl, two_cell1 hb 3 rfl, two_cell1 hb 4 rfl⟩
theorem two_five2 {w w1 : World} {a0 a1 a2 a3 a4 : Value} {t u : TypeId} {ds : Array Value} (hb : Below ((w.alloc (.cells ds u)).alloc (.cells #[a0, a1, a2, a3, a4] t)).heap.size ((w.alloc (.cells ds u)).alloc (.cells #[a0, a1, a2, a3, a4] t)) w1) :
    w1.cell? ⟨w.heap.size + 1, 0, none⟩ = some a0 ∧ w1.cell? ⟨w.heap.size + 1, 1, none⟩ = some a1 ∧ w1.cell? ⟨w.heap.size + 1, 2, none⟩ = some a2 ∧ w1.cell? ⟨w.heap.size + 1, 3, none⟩ = some a3 ∧ w1.cell? ⟨w.heap.size + 1, 4, none⟩ = some a4 :=
  ⟨two_cell2 hb 0 rfl, two_cell2 hb 1 rfl, two_cell2 hb 2 rfl, two_cell2 hb 3 rfl, two_cell2 hb 4 rfl⟩
theorem two_one2 {w w1 : World} {a0 : Value} {t u : TypeId} {ds : Array Value} (hb : Below ((w.alloc (.cells ds u)).alloc (.cells #[a0] t)).heap.size ((w.alloc (.cells ds u)).alloc (.cells #[a0] t)) w1) :
    w1.cell? ⟨w.heap.size + 1, 0, none⟩ = some a0 := two_cell2 hb 0 rfl
theorem one_five {w w1 : World} {a0 a1 a2 a3 a4 : Value} {t : TypeId} (hb : Below (w.alloc (.cells #[a0, a1, a2, a3, a4] t)).heap.size (w.alloc (.cells #[a0, a1, a2, a3, a4] t)) w1) :
    w1.cell? ⟨w.heap.size, 0, none⟩ = some a0 ∧ w1.cell? ⟨w.heap.size, 1, none⟩ = some a1 ∧ w1.cell? ⟨w.heap.size, 2, none⟩ = some a2 ∧ w1.cell? ⟨w.heap.size, 3, none⟩ = some a3 ∧ w1.cell? ⟨w.heap.size, 4, none⟩ = some a4 :=
  ⟨one_cell hb 0 rfl, one_cell hb 1 rfl, one_cell hb 2 rfl, one_cell hb 3 rfl, one_cell hb 4 rfl⟩

/-- Where a cell is known there is a block. -/
theorem cell_lt {w : World} {b o : Nat} {v : Value} (h : w.cell? ⟨b, o, none⟩ = some v) : b < w.heap.size := by
  unfold World.cell? at h
  split at h
  · rename_i he
    exact (Array.getElem?_eq_some_iff.1 he).1
  · cases h
theorem agg_of {w : World} {B : Nat} {x : Dat} {v : Value} (h : RepD w B x v) : ∃ (k n d : Int) (s : ByteArray) (o : Option Addr) (len cap : Nat), v = .agg #[.int .i64 k, .int .i64 n, .int .i64 d, .string s, .slice o len cap] := by
  obtain ⟨k, n, d, s, l⟩ := x
  obtain ⟨sl, rfl, _, _, _, _, o, len, cap, rfl, _⟩ := h.open
  exact ⟨k, n, d, s, o, len, cap, rfl⟩

end Go.Proofs.YtlpkpkcfgchngaaDoor
