/-
  A datum in memory: which values read as which datum, and that this stays while nothing below a block number turns.
-/
import Derived.Below
import Derived.Lib.Hide
import Derived.Test.YtlpkpkcfgchngaaDoorDatText
namespace Go.Proofs.YtlpkpkcfgchngaaDoor
open Go.RowKit

mutual
/-- The value reads as the datum; all its parts lie in blocks below B. -/
def RepD (w : World) (B : Nat) : Dat → Value → Prop
  | .mk k n d s l, v => ∃ o len cap, v = .agg #[.int .i64 k, .int .i64 n, .int .i64 d, .string s, .slice o len cap] ∧
      (-9223372036854775808 ≤ k ∧ k ≤ 9223372036854775807) ∧ (-9223372036854775808 ≤ n ∧ n ≤ 9223372036854775807) ∧ (-9223372036854775808 ≤ d ∧ d ≤ 9223372036854775807) ∧ s.size ≤ 140737488351232 ∧
      len = l.length ∧ len ≤ cap ∧ cap ≤ 9223372036854775807 ∧ (match o with | none => l = [] ∧ cap = 0 | some a => (l ≠ [] → a.spot = none ∧ a.block < B) ∧ RepC w B l a.block a.off)
/-- The cells from an offset of a block on are the data, five cells each. -/
def RepC (w : World) (B : Nat) : List Dat → Nat → Nat → Prop
  | [], _, _ => True
  | x :: l, b, off => (∃ c0 c1 c2 c3 c4, w.cell? ⟨b, off, none⟩ = some c0 ∧ w.cell? ⟨b, off + 1, none⟩ = some c1 ∧ w.cell? ⟨b, off + 2, none⟩ = some c2 ∧ w.cell? ⟨b, off + 3, none⟩ = some c3 ∧ w.cell? ⟨b, off + 4, none⟩ = some c4 ∧ RepD w B x (.agg #[c0, c1, c2, c3, c4])) ∧ RepC w B l b (off + 5)
end

/-- A slice reads as a list of data. -/
def RepS (w : World) (B : Nat) (l : List Dat) (v : Value) : Prop :=
  ∃ o len cap, v = .slice o len cap ∧ len = l.length ∧ len ≤ cap ∧ cap ≤ 9223372036854775807 ∧ (match o with | none => l = [] ∧ cap = 0 | some a => (l ≠ [] → a.spot = none ∧ a.block < B) ∧ RepC w B l a.block a.off)

theorem RepD.open {w : World} {B : Nat} {k n d : Int} {s : ByteArray} {l : List Dat} {v : Value} (h : RepD w B (.mk k n d s l) v) :
    ∃ sl, v = .agg #[.int .i64 k, .int .i64 n, .int .i64 d, .string s, sl] ∧ (-9223372036854775808 ≤ k ∧ k ≤ 9223372036854775807) ∧ (-9223372036854775808 ≤ n ∧ n ≤ 9223372036854775807) ∧ (-9223372036854775808 ≤ d ∧ d ≤ 9223372036854775807) ∧ s.size ≤ 140737488351232 ∧ RepS w B l sl := by
  rw [RepD] at h
  obtain ⟨o, len, cap, rfl, h1, h2, h3, h4, h5⟩ := h
  exact ⟨_, rfl, h1, h2, h3, h4, o, len, cap, rfl, h5⟩

theorem RepD.shut {w : World} {B : Nat} {k n d : Int} {s : ByteArray} {l : List Dat} {sl : Value} (h1 : -9223372036854775808 ≤ k ∧ k ≤ 9223372036854775807) (h2 : -9223372036854775808 ≤ n ∧ n ≤ 9223372036854775807) (h3 : -9223372036854775808 ≤ d ∧ d ≤ 9223372036854775807) (h4 : s.size ≤ 140737488351232) (h : RepS w B l sl) :
    RepD w B (.mk k n d s l) (.agg #[.int .i64 k, .int .i64 n, .int .i64 d, .string s, sl]) := by
  obtain ⟨o, len, cap, rfl, h5⟩ := h
  rw [RepD]
  exact ⟨o, len, cap, rfl, h1, h2, h3, h4, h5⟩

theorem RepC.at {w : World} {B b : Nat} : ∀ {l : List Dat} {off : Nat}, RepC w B l b off → ∀ (i : Nat) (x : Dat), l[i]? = some x →
    ∃ c0 c1 c2 c3 c4, w.cell? ⟨b, off + i * 5, none⟩ = some c0 ∧ w.cell? ⟨b, off + i * 5 + 1, none⟩ = some c1 ∧ w.cell? ⟨b, off + i * 5 + 2, none⟩ = some c2 ∧ w.cell? ⟨b, off + i * 5 + 3, none⟩ = some c3 ∧ w.cell? ⟨b, off + i * 5 + 4, none⟩ = some c4 ∧ RepD w B x (.agg #[c0, c1, c2, c3, c4])
  | [], _, _, i, x, hx => by simp at hx
  | y :: l, off, h, i, x, hx => by
    rw [RepC] at h
    cases i with
    | zero =>
      simp only [List.getElem?_cons_zero, Option.some.injEq] at hx
      subst hx
      simpa using h.1
    | succ i =>
      have := RepC.at h.2 i x (by simpa using hx)
      have e : off + (i + 1) * 5 = off + 5 + i * 5 := by omega
      rw [e]; exact this

/-- What lies below B stays as it reads. -/
theorem rep_kept {w w' : World} {B : Nat} (hk : ∀ b o, b < B → w'.cell? ⟨b, o, none⟩ = w.cell? ⟨b, o, none⟩) :
    (∀ x v, RepD w B x v → RepD w' B x v) ∧ (∀ l b off, b < B → RepC w B l b off → RepC w' B l b off) := by
  have both : (∀ x : Dat, ∀ v, RepD w B x v → RepD w' B x v) := by
    intro x
    refine Dat.rec (motive_1 := fun x => ∀ v, RepD w B x v → RepD w' B x v) (motive_2 := fun l => ∀ b off, b < B → RepC w B l b off → RepC w' B l b off) ?_ ?_ ?_ x
    · intro k n d s l ih v h
      rw [RepD] at h ⊢
      obtain ⟨o, len, cap, rfl, h1, h2, h3, h4, h5, h6, h7, h8⟩ := h
      refine ⟨o, len, cap, rfl, h1, h2, h3, h4, h5, h6, h7, ?_⟩
      cases o with
      | none => exact h8
      | some a =>
        refine ⟨h8.1, ?_⟩
        by_cases hl : l = []
        · subst hl; rw [RepC]; trivial
        · exact ih _ _ (h8.1 hl).2 h8.2
    · intro b off _ _; rw [RepC]; trivial
    · intro x l ihx ihl b off hb h
      rw [RepC] at h ⊢
      obtain ⟨⟨c0, c1, c2, c3, c4, h0, h1, h2, h3, h4, h5⟩, h6⟩ := h
      exact ⟨⟨c0, c1, c2, c3, c4, by rw [hk _ _ hb]; exact h0, by rw [hk _ _ hb]; exact h1, by rw [hk _ _ hb]; exact h2, by rw [hk _ _ hb]; exact h3, by rw [hk _ _ hb]; exact h4, ihx _ h5⟩, ihl _ _ hb h6⟩
  refine ⟨both, ?_⟩
  intro l
  induction l with
  | nil => intro b off _ _; rw [RepC]; trivial
  | cons x l ih =>
    intro b off hb h
    rw [RepC] at h ⊢
    obtain ⟨⟨c0, c1, c2, c3, c4, h0, h1, h2, h3, h4, h5⟩, h6⟩ := h
    exact ⟨⟨c0, c1, c2, c3, c4, by rw [hk _ _ hb]; exact h0, by rw [hk _ _ hb]; exact h1, by rw [hk _ _ hb]; exact h2, by rw [hk _ _ hb]; exact h3, by rw [hk _ _ hb]; exact h4, both _ _ h5⟩, ih _ _ hb h6⟩

theorem below_cells {B : Nat} {w w' : World} (h : Below B w w') : ∀ b o, b < B → w'.cell? ⟨b, o, none⟩ = w.cell? ⟨b, o, none⟩ :=
  fun b o hb => h.cell (p := ⟨b, o, none⟩) hb

theorem RepD.kept {w w' : World} {B : Nat} {x : Dat} {v : Value} (h : RepD w B x v) (hb : Below B w w') : RepD w' B x v := (rep_kept (below_cells hb)).1 x v h
theorem RepC.kept {w w' : World} {B : Nat} {l : List Dat} {b off : Nat} (h : RepC w B l b off) (hB : b < B) (hb : Below B w w') : RepC w' B l b off := (rep_kept (below_cells hb)).2 l b off hB h
theorem RepS.kept {w w' : World} {B : Nat} {l : List Dat} {v : Value} (h : RepS w B l v) (hb : Below B w w') : RepS w' B l v := by
  obtain ⟨o, len, cap, rfl, h1, h2, h3, h4⟩ := h
  refine ⟨o, len, cap, rfl, h1, h2, h3, ?_⟩
  cases o with
  | none => exact h4
  | some a =>
    refine ⟨h4.1, ?_⟩
    by_cases hl : l = []
    · subst hl; rw [RepC]; trivial
    · exact h4.2.kept (h4.1 hl).2 hb

/-- .. also when more blocks are counted in. -/
theorem rep_wider {w : World} {B B' : Nat} (hB : B ≤ B') : (∀ x v, RepD w B x v → RepD w B' x v) ∧ (∀ l b off, RepC w B l b off → RepC w B' l b off) := by
  have both : (∀ x : Dat, ∀ v, RepD w B x v → RepD w B' x v) := by
    intro x
    refine Dat.rec (motive_1 := fun x => ∀ v, RepD w B x v → RepD w B' x v) (motive_2 := fun l => ∀ b off, RepC w B l b off → RepC w B' l b off) ?_ ?_ ?_ x
    · intro k n d s l ih v h
      rw [RepD] at h ⊢
      obtain ⟨o, len, cap, rfl, h1, h2, h3, h4, h5, h6, h7, h8⟩ := h
      refine ⟨o, len, cap, rfl, h1, h2, h3, h4, h5, h6, h7, ?_⟩
      cases o with
      | none => exact h8
      | some a => exact ⟨fun hl => ⟨(h8.1 hl).1, Nat.lt_of_lt_of_le (h8.1 hl).2 hB⟩, ih _ _ h8.2⟩
    · intro b off _; rw [RepC]; trivial
    · intro x l ihx ihl b off h
      rw [RepC] at h ⊢
      obtain ⟨⟨c0, c1, c2, c3, c4, h0, h1, h2, h3, h4, h5⟩, h6⟩ := h
      exact ⟨⟨c0, c1, c2, c3, c4, h0, h1, h2, h3, h4, ihx _ h5⟩, ihl _ _ h6⟩
  refine ⟨both, ?_⟩
  intro l
  induction l with
  | nil => intro b off _; rw [RepC]; trivial
  | cons x l ih =>
    intro b off h
    rw [RepC] at h ⊢
    obtain ⟨⟨c0, c1, c2, c3, c4, h0, h1, h2, h3, h4, h5⟩, h6⟩ := h
    exact ⟨⟨c0, c1, c2, c3, c4, h0, h1, h2, h3, h4, both _ _ h5⟩, ih _ _ h6⟩

theorem RepD.wider {w : World} {B B' : Nat} {x : Dat} {v : Value} (h : RepD w B x v) (hB : B ≤ B') : RepD w B' x v := (rep_wider hB).1 x v h
theorem RepS.wider {w : World} {B B' : Nat} {l : List Dat} {v : Value} (h : RepS w B l v) (hB : B ≤ B') : RepS w B' l v := by
  obtain ⟨o, len, cap, rfl, h1, h2, h3, h4⟩ := h
  refine ⟨o, len, cap, rfl, h1, h2, h3, ?_⟩
  cases o with
  | none => exact h4
  | some a => exact ⟨fun hl => ⟨(h4.1 hl).1, Nat.lt_of_lt_of_le (h4.1 hl).2 hB⟩, (rep_wider hB).2 _ _ _ h4.2⟩

end Go.Proofs.YtlpkpkcfgchngaaDoor
