/-
  Slices of ints that the call makes.
-/
import Derived.Test.YtdlhocghiaghfaaGreatDoorBoxL
import Derived.Laws.AppendOwn
import Derived.Laws.OwnMore
import Derived.Laws.AppendOwnNone
import Derived.OwnWalk
namespace Go.Proofs.YtdlhocghiaghfaaGreatDoor
open Go.RowKit

theorem info_int : (Tryz.prog.info? 3).map (fun i => (i.zero, i.size, i.bytes)) = some (some (.int .i64 0), 1, 8) := by kernel_rfl
/-- An int of the machine's. -/
def I64 (n : Int) : Prop := -9223372036854775808 ≤ n ∧ n ≤ 9223372036854775807
theorem cellsG_ints : ∀ {l : List Int}, (∀ x ∈ l, I64 x) → CellsG 1 IntR l (l.map (Value.int .i64))
  | [], _ => rfl
  | x :: l, h => ⟨[.int .i64 x], l.map (Value.int .i64), rfl, rfl, ⟨rfl, h x (by simp)⟩, cellsG_ints fun y hy => h y (by simp [hy])⟩
theorem SlC.i64 {w : World} {B : Nat} {l : List Int} {v : Value} (h : SlC w B 1 IntR l v) : ∀ x ∈ l, I64 x := by
  obtain ⟨o, len, cap, rfl, _, _, _, h4⟩ := h
  intro x hx
  obtain ⟨i, hi⟩ := List.mem_iff_getElem?.1 hx
  cases o with
  | none => rw [h4.1] at hi; simp at hi
  | some a =>
    obtain ⟨cs, _, _, hr⟩ := h4.2 i x hi
    exact hr.2
theorem rowInts {w : World} {base : Nat} {v : Value} {l : List Int} (h : w.ownsRow base 3 1 v l.length (l.map (Value.int .i64))) (hl : ∀ x ∈ l, I64 x) : SlC w w.heap.size 1 IntR l v := slC_of_row h (cellsG_ints hl)
theorem ownsRow_new {W : World} {b base : Nat} (hb : b = W.heap.size) (hB : base ≤ b) (e : TypeId) (size n : Nat) (cs : List Value) (hl : cs.length = n * size) (hn : n ≤ maxLen) : (W.alloc (.cells cs.toArray e)).ownsRow base e size (.slice (some ⟨b, 0, none⟩) n n) n cs := by
  subst hb
  refine ⟨hl, .inr ⟨W.heap.size, n, cs.toArray, rfl, hB, World.alloc_heap_new W _, Nat.le_refl _, hn, by simpa using hl, ?_⟩⟩
  rw [List.take_of_length_le (by simp [hl])]
theorem intsCell {w : World} {B : Nat} {l : List Int} {o : Option Addr} {len cap : Nat} (h : SlC w B 1 IntR l (.slice o len cap)) (a : Addr) (ho : o = some a) : ∀ (j : Nat) (u : Value), (l.map (Value.int .i64))[j]? = some u → w.cell? (a.add j) = some u := by
  subst ho
  intro j u hj
  simp only [List.getElem?_map, Option.map_eq_some_iff] at hj
  obtain ⟨x, hx, rfl⟩ := hj
  obtain ⟨b, off, cs, ha, _, _, hc, hr⟩ := h.at (Below.refl B w) hx
  simp only [Option.some.injEq] at ha
  subst ha
  have h0 := hc 0 (.int .i64 x) (by rw [hr.1]; rfl)
  rw [add_none rfl]
  simpa using h0
theorem ints_one (l : List Int) : ∀ u ∈ l.map (Value.int .i64), u.oneCell' = true := by
  intro u hu
  obtain ⟨x, _, rfl⟩ := List.mem_map.1 hu
  rfl
/-- 'append(own, l...)', l ints that lie somewhere. -/
theorem wpList_append_ints {w : World} {ops : Array Oper} {rest : List Oper} {o : Oper} {a : Act} {Q : Exit → Act → World → Prop} (hgd : o.guard = none) (s x : Operand)
    (ho : o.op = .call { callee := .builtin .append, args := #[s, x], argTypes := #[32, 32] }) (base B : Nat) (v : Value) (xs l : List Int) (hs : a.eval s = v) (hown : w.ownsRow base 3 1 v xs.length (xs.map (Value.int .i64)))
    (oa : Option Addr) (m c : Nat) (hx : a.eval x = .slice oa m c) (hsl : SlC w B 1 IntR l (.slice oa m c)) (hb : (xs.length + l.length) * 8 ≤ 140737488355328) (hbase : base ≤ w.heap.size)
    (h : ∀ v' w', w'.ownsRow base 3 1 v' (xs ++ l).length ((xs ++ l).map (Value.int .i64)) → w.grownBy w' v.ownBlock → wpList Tryz.prog ops Q rest (a.put o.dst v') w') : wpList Tryz.prog ops Q (o :: rest) a w := by
  obtain ⟨i0, hi, hz0, hz1, hz2⟩ := info_parts info_int
  obtain ⟨rfl, _, _⟩ := hsl.lens
  cases oa with
  | none =>
    obtain ⟨o', l', c', he, _, _, _, h4⟩ := hsl
    simp only [Value.slice.injEq] at he
    obtain ⟨rfl, rfl, rfl⟩ := he
    obtain ⟨rfl, rfl⟩ := h4
    refine wpList_append_own_none hgd s x 32 ho base 3 i0 1 Tryz.underlying32 hi v xs.length _ hs hown hx ?_
    refine h v w (by simpa using hown) ?_
    exact ⟨rfl, rfl, rfl, Nat.le_refl _, fun _ _ _ => rfl⟩
  | some ad =>
    refine wpList_append_own _ hgd s x 32 ho base 3 i0 (.int .i64 0) 1 8 Tryz.underlying32 hi hz0 hz1 hz2 rfl (by decide) v xs.length _ hs hown ad l.length c (l.map (Value.int .i64)) hx (by simp) (intsCell hsl ad rfl) (ints_one l) (by unfold maxLen; omega) hb hbase ?_
    intro v' w' h1 h2 _
    exact h v' w' (by simpa using h1) h2
end Go.Proofs.YtdlhocghiaghfaaGreatDoor
