/-
  Blocks of the call's own (a struct's cells), kept by whatever leaves old memory alone.
-/
import Derived.Test.YtdlhocghiaghfaaGreatDoorUntRep
import Derived.Test.YtdlhocghiaghfaaGreatDoorListUp
namespace Go.Proofs.YtdlhocghiaghfaaGreatDoor
open Go.RowKit

/-- A block of so many cells. -/
def BoxL (W : World) (b : Nat) (t : TypeId) (cs : List Value) : Prop := W.heap[b]? = some (.cells cs.toArray t (0, 0))
theorem BoxL.new {W : World} {b : Nat} (h : b = W.heap.size) (t : TypeId) (cs : List Value) : BoxL (W.alloc (.cells cs.toArray t)) b t cs := by
  subst h; exact World.alloc_heap_new W _
theorem BoxL.lt {W : World} {b : Nat} {t : TypeId} {cs : List Value} (h : BoxL W b t cs) : b < W.heap.size := (Array.getElem?_eq_some_iff.1 h).1
theorem BoxL.keep {W W' : World} {b : Nat} {t : TypeId} {cs : List Value} (h : BoxL W b t cs) (hb : Below W.heap.size W W') : BoxL W' b t cs := (hb.block _ h.lt).trans h
theorem BoxL.alloc {W : World} {b : Nat} {t : TypeId} {cs : List Value} (h : BoxL W b t cs) (o : Obj) : BoxL (W.alloc o) b t cs := h.keep ((Below.refl _ _).alloc (Nat.le_refl _) _)
theorem BoxL.other {W : World} {b : Nat} {t : TypeId} {cs : List Value} (h : BoxL W b t cs) (a : Addr) (v : Value) (hne : b ≠ a.block) : BoxL (W.setCell a v) b t cs := (setCell_heap_other W a v hne).trans h
theorem BoxL.cell {W : World} {b : Nat} {t : TypeId} {cs : List Value} (h : BoxL W b t cs) (i : Nat) {v : Value} (hv : cs[i]? = some v) : W.cell? ⟨b, i, none⟩ = some v := by
  unfold World.cell?
  simp only [show W.heap[b]? = _ from h]
  simpa using hv
theorem BoxL.free {W : World} {b : Nat} {t : TypeId} {cs : List Value} (h : BoxL W b t cs) (i : Nat) : W.frozen? ⟨b, i, none⟩ = false := by
  unfold World.frozen?
  simp [show W.heap[b]? = _ from h]
theorem BoxL.set {W : World} {b : Nat} {t : TypeId} {cs : List Value} (h : BoxL W b t cs) (i : Nat) (v : Value) : BoxL (W.setCell ⟨b, i, none⟩ v) b t (cs.set i v) := by
  simp only [BoxL, World.setCell, Array.getElem?_modify, ↓reduceIte]
  rw [show W.heap[b]? = _ from h]
  simp
theorem keepC {W W' : World} (hb : Below W.heap.size W W') {b o : Nat} {v : Value} (h : W.cell? ⟨b, o, none⟩ = some v) : W'.cell? ⟨b, o, none⟩ = some v := (hb.cell (p := ⟨b, o, none⟩) (cell_lt h)).trans h
theorem Below.one (W : World) (o : Obj) : Below W.heap.size W (W.alloc o) := (Below.refl _ _).alloc (Nat.le_refl _) _
theorem SlC.lens {α : Type} {w : World} {B size : Nat} {R : α → List Value → Prop} {l : List α} {o : Option Addr} {len cap : Nat} (h : SlC w B size R l (.slice o len cap)) : len = l.length ∧ len ≤ cap ∧ cap ≤ 9223372036854775807 := by
  obtain ⟨o', l', c', he, h1, h2, h3, _⟩ := h
  simp only [Value.slice.injEq] at he
  obtain ⟨_, rfl, rfl⟩ := he
  exact ⟨h1, h2, h3⟩
theorem SlC.form {α : Type} {w : World} {B size : Nat} {R : α → List Value → Prop} {l : List α} {v : Value} (h : SlC w B size R l v) : ∃ o len cap, v = .slice o len cap := by
  obtain ⟨o, len, cap, h, _⟩ := h
  exact ⟨o, len, cap, h⟩
/-- Three blocks, then a call. -/
theorem three_boxes {w w1 : World} {A B C : List Value} {t u v : TypeId} (hb : Below (((w.alloc (.cells A.toArray t)).alloc (.cells B.toArray u)).alloc (.cells C.toArray v)).heap.size (((w.alloc (.cells A.toArray t)).alloc (.cells B.toArray u)).alloc (.cells C.toArray v)) w1) :
    BoxL w1 w.heap.size t A ∧ BoxL w1 (w.heap.size + 1) u B ∧ BoxL w1 (w.heap.size + 1 + 1) v C ∧ Below w.heap.size w w1 :=
  ⟨(((BoxL.new rfl t A).alloc _).alloc _).keep hb, ((BoxL.new (by simp) u B).alloc _).keep hb, (BoxL.new (by simp) v C).keep hb, ((((Below.refl _ _).alloc (Nat.le_refl _) _).alloc (by simp) _).alloc (by simp; omega) _).trans (hb.mono (by simp; omega))⟩
end Go.Proofs.YtdlhocghiaghfaaGreatDoor
