/-
  Plain laws of data: counting, sizes, depth, likeness, lists.
-/
import Derived.Test.YtlpkpkcfgchngaaDoorDat
namespace Go.Proofs.YtlpkpkcfgchngaaDoor
namespace Dat
open Go

theorem ind {P : Dat → Prop} (h : ∀ k n d s l, (∀ x ∈ l, P x) → P (mk k n d s l)) : ∀ x, P x := by
  intro x
  refine Dat.rec (motive_1 := P) (motive_2 := fun l => ∀ x ∈ l, P x) ?_ ?_ ?_ x
  · intro k n d s l ih; exact h k n d s l ih
  · intro x hx; cases hx
  · intro x l hx hl y hy
    rcases List.mem_cons.1 hy with rfl | hy
    · exact hx
    · exact hl y hy

/-! ### few -/
theorem all_pos (x : Dat) : 1 ≤ all x := by cases x; simp [all]

theorem few_both : ∀ x : Dat, ∀ left : Int, ((all x : Int) ≤ left → few x left = left - all x) ∧ (left < all x → few x left < 0) := by
  have hL : ∀ l : List Dat, (∀ x ∈ l, ∀ left : Int, ((all x : Int) ≤ left → few x left = left - all x) ∧ (left < all x → few x left < 0)) →
      ∀ left : Int, ((allL l : Int) ≤ left → fewL l left = left - allL l) ∧ (left < allL l → fewL l left < 0) := by
    intro l
    induction l with
    | nil => intro _ left; simp [fewL, allL]
    | cons x l ih =>
      intro h left
      have ih := ih (fun y hy => h y (by simp [hy]))
      have hx := h x (by simp) left
      have hp := all_pos x
      constructor
      · intro hle
        simp only [allL] at hle
        rw [fewL, if_pos (by omega), hx.1 (by omega), (ih _).1 (by omega)]
        simp only [allL]; omega
      · intro hlt
        simp only [allL] at hlt
        rw [fewL]
        split
        · by_cases hc : left < all x
          · have := hx.2 hc
            have e : fewL l (few x left) = few x left := by
              cases l with
              | nil => rfl
              | cons y l => rw [fewL, if_neg (by omega)]
            omega
          · rw [hx.1 (by omega)]
            exact (ih _).2 (by omega)
        · omega
  intro x
  induction x using ind with
  | h k n d s l ih =>
    intro left
    have := hL l ih (left - 1)
    simp only [few, all]
    constructor
    · intro h; rw [this.1 (by omega)]; omega
    · intro h; exact this.2 (by omega)

theorem few_iff (x : Dat) (left : Int) : 0 ≤ few x left ↔ (all x : Int) ≤ left := by
  have := few_both x left
  constructor
  · intro h
    apply Decidable.byContradiction
    intro hc
    have := this.2 (by omega)
    omega
  · intro h; rw [this.1 h]; omega

theorem few_le (x : Dat) (left : Int) : few x left ≤ left - 1 ∨ few x left < 0 := by
  have := few_both x left
  have hp := all_pos x
  by_cases h : (all x : Int) ≤ left
  · rw [this.1 h]; omega
  · exact .inr (this.2 (by omega))

/-! ### size -/
theorem size_le : ∀ x : Dat, ∀ deep, size x deep ≤ all x := by
  intro x
  induction x using ind with
  | h k n d s l ih =>
    intro deep
    have hL : ∀ l : List Dat, (∀ x ∈ l, ∀ deep, size x deep ≤ all x) → ∀ deep, sizeL l deep ≤ allL l := by
      intro l
      induction l with
      | nil => intro _ deep; simp [sizeL, allL]
      | cons x l ih =>
        intro h deep
        have a := h x (by simp) deep
        have b := ih (fun y hy => h y (by simp [hy])) deep
        simp only [sizeL, allL]; omega
    simp only [size, all]
    split
    · have := hL l ih (deep + 1); omega
    · omega

theorem size_eq : ∀ x : Dat, ∀ deep, deep + all x ≤ 1000 → size x deep = all x := by
  intro x
  induction x using ind with
  | h k n d s l ih =>
    intro deep hd
    have hL : ∀ l : List Dat, (∀ x ∈ l, ∀ deep, deep + all x ≤ 1000 → size x deep = all x) → ∀ deep, deep + allL l ≤ 1000 → sizeL l deep = allL l := by
      intro l
      induction l with
      | nil => intro _ deep _; simp [sizeL, allL]
      | cons x l ih =>
        intro h deep hd
        simp only [allL] at hd
        have a := h x (by simp) deep (by omega)
        have b := ih (fun y hy => h y (by simp [hy])) deep (by omega)
        simp only [sizeL, allL]; omega
    simp only [all] at hd
    simp only [size, all]
    rw [if_pos (by omega), hL l ih (deep + 1) (by omega)]

theorem allL_append (a b : List Dat) : allL (a ++ b) = allL a + allL b := by
  induction a with
  | nil => simp [allL]
  | cons x a ih => simp only [List.cons_append, allL, ih]; omega

theorem all_mem {x : Dat} {l : List Dat} (h : x ∈ l) : all x ≤ allL l := by
  induction l with
  | nil => cases h
  | cons y l ih =>
    simp only [allL]
    rcases List.mem_cons.1 h with rfl | h
    · omega
    · have := ih h; omega

/-- A list's size: its Pairs, its Null, and its parts. -/
theorem size_list (l : List Dat) (deep : Nat) (hd : deep + l.length + 100 ≤ 999) (h : ∀ x ∈ l, all x ≤ 100) : size (list l) deep = allL l + l.length + 1 := by
  induction l generalizing deep with
  | nil => simp only [list, null, size, allL, sizeL, List.length_nil]; split <;> rfl
  | cons x l ih =>
    simp only [List.length_cons] at hd
    have hx := h x (by simp)
    simp only [list, pair, size, sizeL, allL, List.length_cons]
    rw [if_pos (by omega), size_eq x (deep + 1) (by omega), ih (deep + 1) (by omega) (fun y hy => h y (by simp [hy]))]
    omega

/-! ### right -/
theorem rightL_iff (l : List Dat) (deep : Nat) : rightL l deep = true ↔ ∀ x ∈ l, right x deep = true := by
  induction l with
  | nil => simp [rightL]
  | cons x l ih => simp [rightL, ih]

theorem right_less : ∀ x : Dat, ∀ a b, b ≤ a → right x a = true → right x b = true := by
  intro x
  induction x using ind with
  | h k n d s l ih =>
    intro a b hab h
    simp only [right, Bool.and_eq_true, decide_eq_true_eq] at h ⊢
    refine ⟨by omega, h.2.1, ?_⟩
    rw [rightL_iff] at h ⊢
    exact fun x hx => ih x hx (a + 1) (b + 1) (by omega) (h.2.2 x hx)

/-- A part of what is right is right. -/
theorem right_part {x y : Dat} {deep : Nat} (h : right x deep = true) (hy : y ∈ x.l) : right y 0 = true := by
  obtain ⟨k, n, d, s, l⟩ := x
  simp only [right, Bool.and_eq_true, decide_eq_true_eq] at h
  exact right_less y _ 0 (by omega) ((rightL_iff _ _).1 h.2.2 y hy)

/-! ### alike -/
theorem alike_iff : ∀ x y : Dat, alike x y = true ↔ x = y := by
  intro x
  induction x using ind with
  | h k n d s l ih =>
    intro y
    obtain ⟨k', n', d', s', l'⟩ := y
    have hL : ∀ l : List Dat, (∀ x ∈ l, ∀ y : Dat, alike x y = true ↔ x = y) → ∀ l', alikeL l l' = true ↔ l = l' := by
      intro l
      induction l with
      | nil => intro _ l'; cases l' <;> simp [alikeL]
      | cons x l ih =>
        intro h l'
        cases l' with
        | nil => simp [alikeL]
        | cons y l' =>
          simp only [alikeL, Bool.and_eq_true, List.cons.injEq]
          rw [h x (by simp) y, ih (fun z hz => h z (by simp [hz])) l']
    simp only [alike, Bool.and_eq_true, decide_eq_true_eq, hL l ih l', mk.injEq]
    constructor
    · rintro ⟨⟨a, b, c, d⟩, e⟩; exact ⟨a, b, c, d, e⟩
    · rintro ⟨a, b, c, d, e⟩; exact ⟨⟨a, b, c, d⟩, e⟩

theorem alike_self (x : Dat) : alike x x = true := (alike_iff x x).2 rfl
theorem alike_symm (x y : Dat) : alike x y = alike y x := by
  rw [Bool.eq_iff_iff, alike_iff, alike_iff]; exact eq_comm

/-! ### lists -/
theorem items_list (l : List Dat) : items (list l) = some l := by
  induction l with
  | nil => simp [list, null, items]
  | cons x l ih => simp [list, pair, items, ih]

end Dat
end Go.Proofs.YtlpkpkcfgchngaaDoor
