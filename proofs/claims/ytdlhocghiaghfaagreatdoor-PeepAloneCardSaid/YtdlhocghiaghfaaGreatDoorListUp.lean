/-
  The contract of slices.Backward over data: an iterator that hands on a slice's elements from the last to the first.
-/
import Derived.RangeFuncNested
import Derived.RangeFuncBound
import Derived.RangeFuncCalls
import Derived.RangeFuncLeaves
import Derived.Shelf.Abstract
import Derived.Shelf.RegionOpen
import Derived.WalkKit
import Derived.OwnWalkIn
import Derived.TacticsInMore
import Derived.LoopNIn
import Derived.LoopIn
import Derived.Test.YtdlhocghiaghfaaGreatDoorBoxes
namespace Go.Proofs.YtdlhocghiaghfaaGreatDoor
open Go.RowKit Go.Shelf

attribute [local go_sem] Oper.semAt_some

/-- What the iterator hands on: an index, and a value that reads as a datum. -/
abbrev Item (w : World) (B : Nat) := { x : Int × Dat × Value // RepD w B x.2.1 x.2.2 }
def Item.dat {w : World} {B : Nat} (x : Item w B) : Dat := x.1.2.1

theorem rev_step {l : List Dat} {j k : Nat} {x : Dat} (hx : l[j]? = some x) (hk : j + k + 1 = l.length) : l.reverse.take (k + 1) = l.reverse.take k ++ [x] := by
  rw [List.take_add_one]
  congr 1
  rw [List.getElem?_reverse (by omega), show l.length - 1 - k = j by omega, hx]; rfl

end Go.Proofs.YtdlhocghiaghfaaGreatDoor

namespace Go.Proofs.YtdlhocghiaghfaaGreatDoor
open Go.RowKit Go.Shelf

attribute [local go_sem] Oper.semAt_some

/-- A call that hands back a datum of its own. -/
def DatPost (x : Dat) (w : World) (e : Ending) (w' : World) : Prop := ∃ v, e = .returned v ∧ RepD w' w'.heap.size x v ∧ Below w.heap.size w w'

/-- The list of what has come, from the last on. -/
def listUp {w : World} {B : Nat} (pre : List (Item w B)) : Dat := pre.foldl (fun acc x => Dat.pair x.dat acc) Dat.null
theorem listUp_snoc {w : World} {B : Nat} (pre : List (Item w B)) (x : Item w B) : listUp (pre ++ [x]) = Dat.pair x.dat (listUp pre) := by simp [listUp]
theorem foldr_list (l : List Dat) : l.foldr (fun x acc => Dat.pair x acc) Dat.null = Dat.list l := by
  induction l with
  | nil => rfl
  | cons x l ih => rw [List.foldr_cons, Dat.list, ih]
theorem listUp_all {w : World} {B : Nat} {ys : List (Item w B)} {l : List Dat} (h : ys.map Item.dat = l.reverse) : listUp ys = Dat.list l := by
  have e : listUp ys = (ys.map Item.dat).foldl (fun acc x => Dat.pair x acc) Dat.null := by rw [List.foldl_map]; rfl
  rw [e, h, List.foldl_reverse, foldr_list]

/-- A box of five cells. -/
def Box5 (W : World) (B : Nat) (t : TypeId) (c0 c1 c2 c3 c4 : Value) : Prop := W.heap[B]? = some (.cells #[c0, c1, c2, c3, c4] t (0, 0))
section
variable {W W' : World} {B : Nat} {t : TypeId} {c0 c1 c2 c3 c4 : Value}
theorem Box5.lt (h : Box5 W B t c0 c1 c2 c3 c4) : B < W.heap.size := (Array.getElem?_eq_some_iff.1 h).1
theorem Box5.cells (h : Box5 W B t c0 c1 c2 c3 c4) : W.cell? ⟨B, 0, none⟩ = some c0 ∧ W.cell? ⟨B, 1, none⟩ = some c1 ∧ W.cell? ⟨B, 2, none⟩ = some c2 ∧ W.cell? ⟨B, 3, none⟩ = some c3 ∧ W.cell? ⟨B, 4, none⟩ = some c4 := by
  have h' : W.heap[B]? = _ := h
  refine ⟨?_, ?_, ?_, ?_, ?_⟩ <;> simp [World.cell?, h']
theorem Box5.free (h : Box5 W B t c0 c1 c2 c3 c4) : W.frozen? ⟨B, 0, none⟩ = false ∧ W.frozen? ⟨B, 1, none⟩ = false ∧ W.frozen? ⟨B, 2, none⟩ = false ∧ W.frozen? ⟨B, 3, none⟩ = false ∧ W.frozen? ⟨B, 4, none⟩ = false := by
  have h' : W.heap[B]? = _ := h
  refine ⟨?_, ?_, ?_, ?_, ?_⟩ <;> simp [World.frozen?, h']
theorem Box5.new (W : World) (t : TypeId) (c0 c1 c2 c3 c4 : Value) : Box5 (W.alloc (.cells #[c0, c1, c2, c3, c4] t)) W.heap.size t c0 c1 c2 c3 c4 := World.alloc_heap_new W _
theorem Box5.kept {row : Option Nat} (h : Box5 W B t c0 c1 c2 c3 c4) (hg : W.grownBy W' row) (hne : some B ≠ row) : Box5 W' B t c0 c1 c2 c3 c4 := (hg.block B h.lt hne).trans h
theorem Box5.alloc (h : Box5 W B t c0 c1 c2 c3 c4) (o : Obj) : Box5 (W.alloc o) B t c0 c1 c2 c3 c4 := h.kept (World.grownBy_alloc W o none) (by simp)
theorem setCell_heap_other (W : World) (a : Addr) (v : Value) {k : Nat} (h : k ≠ a.block) : (W.setCell a v).heap[k]? = W.heap[k]? := Below.heap_setCell W a v k h
theorem Box5.set (h : Box5 W B t c0 c1 c2 c3 c4) (d0 d1 d2 d3 d4 : Value) :
    Box5 (((((W.setCell ⟨B, 0, none⟩ d0).setCell ⟨B, 1, none⟩ d1).setCell ⟨B, 2, none⟩ d2).setCell ⟨B, 3, none⟩ d3).setCell ⟨B, 4, none⟩ d4) B t d0 d1 d2 d3 d4 := by
  obtain ⟨hlt, hk⟩ := Array.getElem?_eq_some_iff.1 h
  simp only [Box5, World.setCell, Array.getElem?_modify, ↓reduceIte]
  rw [show W.heap[B]? = _ from h]
  rfl
end

theorem box5_own {β : Type} (B : Nat) (t : TypeId) (c0 c1 c2 c3 c4 : β → Value) : Own (fun s W => Box5 W B t (c0 s) (c1 s) (c2 s) (c3 s) (c4 s)) := fun s X Y row hs hg hr => hs.kept hg (fun e' => by
  obtain ⟨o, ho, hc⟩ := hr B e'.symm
  rw [show X.heap[B]? = _ from hs] at ho; cases ho; cases hc)

/-- Every known cell stays over the turn of a block that is no cells. -/
theorem cells_own {A A' : World} {row : Option Nat} (hg : A.grownBy A' row) (hr : ∀ r, row = some r → ∃ o : Obj, A.heap[r]? = some o ∧ o.isCells = false) (b o : Nat) (v : Value) (h : A.cell? ⟨b, o, none⟩ = some v) : A'.cell? ⟨b, o, none⟩ = some v :=
  cell_kept h hg hr

/-- Five stores into one box. -/
abbrev set5 (W : World) (B : Nat) (d0 d1 d2 d3 d4 : Value) : World := ((((W.setCell ⟨B, 0, none⟩ d0).setCell ⟨B, 1, none⟩ d1).setCell ⟨B, 2, none⟩ d2).setCell ⟨B, 3, none⟩ d3).setCell ⟨B, 4, none⟩ d4
theorem set5_other (W : World) (B : Nat) (d0 d1 d2 d3 d4 : Value) {c o : Nat} (h : c ≠ B) : (set5 W B d0 d1 d2 d3 d4).cell? ⟨c, o, none⟩ = W.cell? ⟨c, o, none⟩ := by
  have e : ∀ (w : World) (i : Nat) (d : Value), (w.setCell ⟨B, i, none⟩ d).cell? ⟨c, o, none⟩ = w.cell? ⟨c, o, none⟩ := fun w i d => World.cell?_setCell_other _ _ _ _ (fun hh => h (by simpa using (congrArg Addr.block hh).symm))
  unfold set5
  rw [e, e, e, e, e]
theorem set5_keeps (W : World) (B : Nat) (d0 d1 d2 d3 d4 : Value) : KeepsOthers W (set5 W B d0 d1 d2 d3 d4) :=
  ((((KeepsOthers.setCell _ _ _).trans (KeepsOthers.setCell _ _ _)).trans (KeepsOthers.setCell _ _ _)).trans (KeepsOthers.setCell _ _ _)).trans (KeepsOthers.setCell _ _ _)
theorem set5_below (W : World) (B H : Nat) (d0 d1 d2 d3 d4 : Value) (h : H ≤ B) : Below H W (set5 W B d0 d1 d2 d3 d4) :=
  (((((Below.refl H W).setCell (p := ⟨B, 0, none⟩) h _).setCell (p := ⟨B, 1, none⟩) h _).setCell (p := ⟨B, 2, none⟩) h _).setCell (p := ⟨B, 3, none⟩) h _).setCell (p := ⟨B, 4, none⟩) h _
theorem set5_heap (W : World) (B : Nat) (d0 d1 d2 d3 d4 : Value) {c : Nat} (h : c ≠ B) : (set5 W B d0 d1 d2 d3 d4).heap[c]? = W.heap[c]? := by
  unfold set5
  rw [setCell_heap_other _ _ _ h, setCell_heap_other _ _ _ h, setCell_heap_other _ _ _ h, setCell_heap_other _ _ _ h, setCell_heap_other _ _ _ h]
theorem set5_size (W : World) (B : Nat) (d0 d1 d2 d3 d4 : Value) : (set5 W B d0 d1 d2 d3 d4).heap.size = W.heap.size := by simp [set5]

/-- A Pair of data that do not read the boxes, made anew, one of the boxes overwritten by it. -/
theorem pair_made {W : World} {B lo hi : Nat} {x y : Dat} {a0 a1 a2 a3 a4 b0 b1 b2 b3 b4 d0 d1 d2 d3 d4 : Value} (hlo : lo ≤ B ∧ B < hi) (hb : hi ≤ W.heap.size) (hx : RepD (gap W lo hi) W.heap.size x (.agg #[a0, a1, a2, a3, a4])) (hy : RepD (gap W lo hi) W.heap.size y (.agg #[b0, b1, b2, b3, b4])) (t : TypeId) :
    RepD (gap ((set5 W B d0 d1 d2 d3 d4).alloc (.cells #[a0, a1, a2, a3, a4, b0, b1, b2, b3, b4] t)) lo hi) ((set5 W B d0 d1 d2 d3 d4).alloc (.cells #[a0, a1, a2, a3, a4, b0, b1, b2, b3, b4] t)).heap.size (Dat.pair x y)
      (.agg #[.int .i64 6, .int .i64 0, .int .i64 0, .string ⟨#[]⟩, .slice (some ⟨W.heap.size, 0, none⟩) 2 2]) := by
  have hs := set5_size W B d0 d1 d2 d3 d4
  have hk : ∀ c o u, ¬ (lo ≤ c ∧ c < hi) → W.cell? ⟨c, o, none⟩ = some u → ((set5 W B d0 d1 d2 d3 d4).alloc (.cells #[a0, a1, a2, a3, a4, b0, b1, b2, b3, b4] t)).cell? ⟨c, o, none⟩ = some u := fun c o u hc h => by
    rw [World.cell?_alloc_past _ _ _ (by rw [hs]; exact cell_lt h), set5_other _ _ _ _ _ _ _ (by omega)]; exact h
  have hn : ∀ i v, #[a0, a1, a2, a3, a4, b0, b1, b2, b3, b4][i]? = some v → (gap ((set5 W B d0 d1 d2 d3 d4).alloc (.cells #[a0, a1, a2, a3, a4, b0, b1, b2, b3, b4] t)) lo hi).cell? ⟨W.heap.size, i, none⟩ = some v := fun i v h => by
    rw [gap_other (by omega), World.cell?_alloc_at _ _ _ _ hs.symm]; exact h
  refine RepD.shut (by omega) (by omega) (by omega) (by decide) ⟨some ⟨W.heap.size, 0, none⟩, 2, 2, rfl, rfl, by omega, by omega, fun _ => ⟨rfl, by simp⟩, ?_⟩
  refine RepC.two (hn 0 _ rfl) (hn 1 _ rfl) (hn 2 _ rfl) (hn 3 _ rfl) (hn 4 _ rfl) (hn 5 _ rfl) (hn 6 _ rfl) (hn 7 _ rfl) (hn 8 _ rfl) (hn 9 _ rfl) ((hx.holed hk).wider (by simp)) ((hy.holed hk).wider (by simp))

/-- What the loop of List keeps: the box that holds the list so far, which the list does not read. -/
def ListI (H : Nat) (w : World) {w0 : World} {B : Nat} (pre : List (Item w0 B)) (W : World) : Prop :=
  ((∃ (k n d : Int) (s : ByteArray) (o : Option Addr) (len cap : Nat), Box5 W (H + 1) 66 (.int .i64 k) (.int .i64 n) (.int .i64 d) (.string s) (.slice o len cap) ∧ RepD (gap W H (H + 2)) W.heap.size (listUp pre) (.agg #[.int .i64 k, .int .i64 n, .int .i64 d, .string s, .slice o len cap])) ∧ Box5 W H 66 (.int .i64 0) (.int .i64 0) (.int .i64 0) (.string ⟨#[]⟩) (.slice none 0 0)) ∧ Below H w W ∧ H + 3 ≤ W.heap.size

theorem listI_own (H : Nat) (w : World) (w0 : World) (B n0 : Nat) (hw : H ≤ w.heap.size) (hn : H ≤ n0) : OwnFrom n0 (fun (pre : List (Item w0 B)) W => ListI H w pre W) := by
  refine OwnFrom.and (OwnFrom.and (Own.from ?_ _) (Own.from (box5_own _ _ _ _ _ _ _) _)) (OwnFrom.and (ownFrom_below hw hn) (Own.from (fun _ _ _ _ hs hg _ => Nat.le_trans hs hg.size) _))
  rintro s X Y row ⟨k, n, d, st, o, len, cap, hb, hrep⟩ hg hr
  have hb' := box5_own (H + 1) 66 (fun _ : Unit => .int .i64 k) (fun _ => .int .i64 n) (fun _ => .int .i64 d) (fun _ => .string st) (fun _ => .slice o len cap) () X Y row hb hg hr
  exact ⟨k, n, d, st, o, len, cap, hb', (hrep.holed fun c o u _ hc => cells_own hg hr c o u hc).wider hg.size⟩
end Go.Proofs.YtdlhocghiaghfaaGreatDoor

namespace Go.Proofs.YtdlhocghiaghfaaGreatDoor
open Go.RowKit

def isZero : Dat → Bool | .mk k n d _ _ => decide (k = 0 ∧ n = 0 ∧ d = 0)
mutual
/-- No part is the zero datum. -/
def nz : Dat → Bool | .mk _ _ _ _ l => nzL l
def nzL : List Dat → Bool
  | [] => true
  | x :: l => !isZero x && (nz x && nzL l)
end

theorem zero_cell {w : World} {p o : Nat} {t : TypeId} {c0 c1 c2 c3 c4 c : Value} (hp : Box5 w p t c0 c1 c2 c3 c4) (h : w.cell? ⟨p, o, none⟩ = some c) : o < 5 := by
  have h' : w.heap[p]? = _ := hp
  simp only [World.cell?, h'] at h
  have h2 : (#[c0, c1, c2, c3, c4] : Array Value)[o]? = some c := by simpa using h
  have := (Array.getElem?_eq_some_iff.1 h2).1
  simpa using this

theorem rep_noZero {w : World} {B p : Nat} {t : TypeId} {s0 sl0 : Value} (hp : Box5 w p t (.int .i64 0) (.int .i64 0) (.int .i64 0) s0 sl0) : ∀ x v, nz x = true → RepD w B x v → RepD (gap w p (p + 1)) B x v := by
  intro x
  refine Dat.rec (motive_1 := fun x => ∀ v, nz x = true → RepD w B x v → RepD (gap w p (p + 1)) B x v) (motive_2 := fun l => ∀ b off, nzL l = true → RepC w B l b off → RepC (gap w p (p + 1)) B l b off) ?_ ?_ ?_ x
  · intro k n d s l ih v hz h
    rw [nz] at hz
    rw [RepD] at h ⊢
    obtain ⟨o, len, cap, rfl, h1, h2, h3, h4, h5, h6, h7, h8⟩ := h
    refine ⟨o, len, cap, rfl, h1, h2, h3, h4, h5, h6, h7, ?_⟩
    cases o with
    | none => exact h8
    | some a => exact ⟨h8.1, ih _ _ hz h8.2⟩
  · intro b off _ _; rw [RepC]; trivial
  · intro x l ihx ihl b off hz h
    rw [nzL] at hz
    simp only [Bool.and_eq_true, Bool.not_eq_true'] at hz
    rw [RepC] at h ⊢
    obtain ⟨⟨c0, c1, c2, c3, c4, h0, h1, h2, h3, h4, h5⟩, h6⟩ := h
    have hb : b ≠ p := by
      rintro rfl
      have l4 := zero_cell hp h4
      obtain rfl : off = 0 := by omega
      obtain ⟨q0, q1, q2, _⟩ := hp.cells
      rw [q0] at h0
      rw [q1] at h1
      rw [q2] at h2
      simp only [Option.some.injEq] at h0 h1 h2
      subst h0 h1 h2
      obtain ⟨k, n, d, s, l'⟩ := x
      obtain ⟨sl, hv, _⟩ := h5.open
      simp only [Value.agg.injEq, Array.mk.injEq, List.cons.injEq, Value.int.injEq, true_and] at hv
      obtain ⟨rfl, rfl, rfl, _⟩ := hv
      simp [isZero] at hz
    have g : ∀ o, (gap w p (p + 1)).cell? ⟨b, o, none⟩ = w.cell? ⟨b, o, none⟩ := fun o => gap_other (by omega)
    exact ⟨⟨c0, c1, c2, c3, c4, (g _).trans h0, (g _).trans h1, (g _).trans h2, (g _).trans h3, (g _).trans h4, ihx _ hz.2.1 h5⟩, ihl _ _ hz.2.2 h6⟩

/-- .. so they are data still when it is written. -/
theorem rep_written {w : World} {p : Nat} {t : TypeId} {s0 sl0 : Value} (hp : Box5 w p t (.int .i64 0) (.int .i64 0) (.int .i64 0) s0 sl0) {x : Dat} {v : Value} (hz : nz x = true) (h : RepD w w.heap.size x v) (d0 d1 d2 d3 d4 : Value) : RepD (set5 w p d0 d1 d2 d3 d4) (set5 w p d0 d1 d2 d3 d4).heap.size x v :=
  ((rep_noZero hp x v hz h).closed fun c o u hc hu => by rw [set5_other _ _ _ _ _ _ _ (by omega)]; exact hu).wider (by rw [set5_size]; exact Nat.le_refl _)
end Go.Proofs.YtdlhocghiaghfaaGreatDoor
