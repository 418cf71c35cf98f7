/-
  Slices of whatever elements, each a row of cells: how they read, that they stay, how an argument opens.
-/
import Derived.Test.YtdlhocghiaghfaaGreatDoorOpens
namespace Go.Proofs.YtdlhocghiaghfaaGreatDoor
open Go.RowKit Go.Deep Go.ChangeShapes Go.WideShapes Go.ChangeAt

/-- A slice reads as a list: each element a row of so many cells. -/
def SlC {α : Type} (w : World) (B size : Nat) (R : α → List Value → Prop) (l : List α) (v : Value) : Prop :=
  ∃ (o : Option Addr) (len cap : Nat), v = .slice o len cap ∧ len = l.length ∧ len ≤ cap ∧ cap ≤ 9223372036854775807 ∧
    (match o with
      | none => l = [] ∧ cap = 0
      | some a => (l ≠ [] → a.spot = none ∧ a.block < B) ∧ ∀ (i : Nat) (x : α), l[i]? = some x → ∃ cs : List Value, cs.length = size ∧ (∀ j u, cs[j]? = some u → w.cell? ⟨a.block, a.off + i * size + j, none⟩ = some u) ∧ R x cs)

theorem SlC.kept {α : Type} {w w' : World} {B size : Nat} {R R' : α → List Value → Prop} {l : List α} {v : Value} (h : SlC w B size R l v) (hb : Below B w w') (hR : ∀ x ∈ l, ∀ cs, R x cs → R' x cs) : SlC w' B size R' l v := by
  obtain ⟨o, len, cap, rfl, h1, h2, h3, h4⟩ := h
  refine ⟨o, len, cap, rfl, h1, h2, h3, ?_⟩
  cases o with
  | none => exact h4
  | some a =>
    refine ⟨h4.1, fun i x hx => ?_⟩
    obtain ⟨cs, hl, hc, hr⟩ := h4.2 i x hx
    have hlt := (h4.1 (by intro h; rw [h] at hx; simp at hx)).2
    exact ⟨cs, hl, fun j u hu => (hb.cell (p := ⟨a.block, _, none⟩) hlt).trans (hc j u hu), hR x (List.mem_of_getElem? hx) cs hr⟩
theorem SlC.wider {α : Type} {w : World} {B B' size : Nat} {R : α → List Value → Prop} {l : List α} {v : Value} (h : SlC w B size R l v) (hB : B ≤ B') : SlC w B' size R l v := by
  obtain ⟨o, len, cap, rfl, h1, h2, h3, h4⟩ := h
  refine ⟨o, len, cap, rfl, h1, h2, h3, ?_⟩
  cases o with
  | none => exact h4
  | some a => exact ⟨fun hl => ⟨(h4.1 hl).1, Nat.lt_of_lt_of_le (h4.1 hl).2 hB⟩, h4.2⟩
theorem SlC.slice {α : Type} {w : World} {B size : Nat} {R : α → List Value → Prop} {l : List α} {v : Value} (h : SlC w B size R l v) : ∃ o len cap, v = .slice o len cap ∧ len = l.length ∧ len ≤ cap ∧ cap ≤ 9223372036854775807 := by
  obtain ⟨o, len, cap, h1, h2, h3, h4, _⟩ := h
  exact ⟨o, len, cap, h1, h2, h3, h4⟩
/-- An element. -/
theorem SlC.at {α : Type} {w wr : World} {B size : Nat} {R : α → List Value → Prop} {l : List α} {o : Option Addr} {len cap j : Nat} {x : α} (h : SlC w B size R l (.slice o len cap)) (hb : Below B w wr) (hx : l[j]? = some x) :
    ∃ b off cs, o = some ⟨b, off, none⟩ ∧ b < B ∧ cs.length = size ∧ (∀ q u, cs[q]? = some u → wr.cell? ⟨b, off + j * size + q, none⟩ = some u) ∧ R x cs := by
  obtain ⟨o2, len2, cap2, he, _, _, _, h4⟩ := h
  simp only [Value.slice.injEq] at he
  obtain ⟨rfl, rfl, rfl⟩ := he
  cases o with
  | none => rw [h4.1] at hx; simp at hx
  | some a =>
    obtain ⟨cs, hl, hc, hr⟩ := h4.2 j x hx
    obtain ⟨hs, hlt⟩ := h4.1 (by intro h; rw [h] at hx; simp at hx)
    obtain ⟨b, off, sp⟩ := a
    obtain rfl : sp = none := hs
    exact ⟨b, off, cs, rfl, hlt, hl, fun q u hu => (hb.cell (p := ⟨b, off + j * size + q, none⟩) hlt).trans (hc q u hu), hr⟩

section
variable {H : Type} {enc : TypeId × Value → H}

theorem list_choice {α : Type} {len : Nat} {P : Nat → α → Prop} (h : ∀ i, i < len → ∃ x, P i x) : ∃ l : List α, l.length = len ∧ ∀ i x, l[i]? = some x → P i x := by
  induction len with
  | zero => exact ⟨[], rfl, fun i x hx => by simp at hx⟩
  | succ n ih =>
    obtain ⟨l, hl, hP⟩ := ih (fun i hi => h i (by omega))
    obtain ⟨x, hx⟩ := h n (by omega)
    refine ⟨l ++ [x], by simp [hl], fun i y hy => ?_⟩
    by_cases hi : i < n
    · rw [List.getElem?_append_left (by omega)] at hy
      exact hP i y hy
    · rw [List.getElem?_append_right (by omega)] at hy
      have : i = n := by
        have := (List.getElem?_eq_some_iff.1 hy).1
        simp at this; omega
      subst this
      simp [hl] at hy
      rw [← hy]; exact hx

set_option maxRecDepth 100000 in
/-- An argument that is a slice opens, if its elements do. -/
theorem slC_of_trod {α : Type} {w : World} {ts te : TypeId} {size bs : Nat} (hu : Tryz.prog.underlying ts = some (.slice te)) (hcs : Tryz.prog.cellsOf te = size) (hbs : Tryz.prog.bytesOf te = bs) (hpos : 0 < size) (hbp : 0 < bs) {R : α → List Value → Prop}
    (hel : ∀ n' cs' y, DataW.trod enc Tryz.prog w 0 (fun _ => true) true n' te cs' = some y → (∀ n ∈ y.1.weights Tryz.prog te, n ≤ reachBytes) → ∃ x, R x cs')
    (fuel : Nat) (c4 : Value) (x4 : DataW H × List MemPlace) (g4 : DataW.trod enc Tryz.prog w 0 (fun _ => true) true fuel ts [c4] = some x4) (w4 : ∀ n ∈ x4.1.weights Tryz.prog ts, n ≤ reachBytes) : ∃ l : List α, SlC w w.heap.size size R l c4 := by
  rcases DataW.trod_slice hu g4 with ⟨e4, _⟩ | ⟨a, len, cap, elems, rest, n', rfl, e4, hx4, _, hle, _, hel2, hget4, hsp, _⟩
  · have f4 : c4 = .slice none 0 0 := by simpa using e4
    subst f4
    exact ⟨[], none, 0, 0, rfl, rfl, by omega, by omega, rfl, rfl⟩
  · have f4 : c4 = .slice (some a) len cap := by simpa using e4
    subst f4 hx4
    have hrest := (hsp rfl).1
    have hcap : cap ≤ 9223372036854775807 := by
      have := w4 ((elems.length + rest.length) * bs) (by simp [DataW.weights, hu, hbs])
      have h9 : (elems.length + rest.length) * bs ≤ 140737488351232 := this
      have h10 : (elems.length + rest.length) * 1 ≤ (elems.length + rest.length) * bs := Nat.mul_le_mul_left _ hbp
      omega
    by_cases h0 : len = 0
    · subst h0
      exact ⟨[], some a, 0, cap, rfl, rfl, by omega, hcap, fun h => absurd rfl h, fun i x hx => by simp at hx⟩
    have hat : ∀ i (hi : i < len), ∃ cs', w.cells? 0 (a.add (i * size)) size = some cs' ∧ DataW.trod enc Tryz.prog w 0 (fun _ => true) true n' te cs' = some (elems[i]'(by omega)) := by
      intro i hi
      have hb := hget4 i hi
      rw [hcs, List.getElem?_eq_getElem (by omega)] at hb
      exact Option.bind_eq_some_iff.1 hb
    obtain ⟨hspot, hblk⟩ : a.spot = none ∧ a.block < w.heap.size := by
      obtain ⟨cs', hc1, _⟩ := hat 0 (by omega)
      obtain ⟨_, hl5, hcs⟩ := World.cells?_some hc1
      have h00 := hcs 0 (by omega)
      rw [List.getElem?_eq_getElem (by omega)] at h00
      have := cell_spot h00
      simpa [Addr.add] using this
    have hcell : ∀ i, i < len → ∃ x : α, ∃ cs : List Value, cs.length = size ∧ (∀ j u, cs[j]? = some u → w.cell? ⟨a.block, a.off + i * size + j, none⟩ = some u) ∧ R x cs := by
      intro i hi
      obtain ⟨cs', hc1, hc2⟩ := hat i hi
      obtain ⟨_, hl5, hcs⟩ := World.cells?_some hc1
      rw [add_none hspot] at hcs
      obtain ⟨x, hx⟩ := hel n' _ _ hc2 (fun q hq => w4 q (by
          simp only [DataW.weights, hu, List.mem_cons, List.mem_append]
          refine Or.inr (Or.inl (weightsAll_mem (d := (elems[i]'(by omega)).1) ?_ q hq))
          exact List.mem_map_of_mem (List.getElem_mem _)))
      refine ⟨x, cs', hl5, fun j u hj => ?_, hx⟩
      have hjl : j < size := by have := (List.getElem?_eq_some_iff.1 hj).1; omega
      have := hcs j hjl
      rw [add_none rfl] at this
      rw [← hj]; exact this
    obtain ⟨l, hl, hP⟩ := list_choice hcell
    exact ⟨l, some a, len, cap, rfl, hl.symm, hle, hcap, fun _ => ⟨hspot, hblk⟩, fun i x hx => hP i x hx⟩
end

/-- A row of one int. -/
def IntR (n : Int) (cs : List Value) : Prop := cs = [.int .i64 n] ∧ -9223372036854775808 ≤ n ∧ n ≤ 9223372036854775807
/-- A row of two ints. -/
def PairR (p : Int × Int) (cs : List Value) : Prop := cs = [.int .i64 p.1, .int .i64 p.2] ∧ (-9223372036854775808 ≤ p.1 ∧ p.1 ≤ 9223372036854775807) ∧ (-9223372036854775808 ≤ p.2 ∧ p.2 ≤ 9223372036854775807)

section
variable {H : Type} {enc : TypeId × Value → H}
end
end Go.Proofs.YtdlhocghiaghfaaGreatDoor
